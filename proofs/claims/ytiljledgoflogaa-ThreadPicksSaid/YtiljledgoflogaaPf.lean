/- A worker and the reference's, side by side. -/
import Derived.Test.YtiljledgoflogaaPd
import Derived.Test.YtiljledgoflogaaPe
namespace Go.Proofs.Ytiljledgoflogaa
open Go.RowKit
set_option linter.unusedSimpArgs false
set_option linter.unusedVariables false

/-- A pick: its event's kind, what was told, the regions, whether an access was done, the job behind it. -/
structure PickR where
  kind : Int
  told : List Int
  L : List Reg
  d : Nat
  J : Job
def pickL (L : List Reg) (ci ce : Int) (B : List (List Acc)) : List Acc → List Int → PickR
  | [], t => ⟨2, t, L, 0, ⟨B, none⟩⟩
  | [A], t => if okB L ci ce A.op A.at_ then ⟨2, t ++ [peekOf L ci A.at_], doL L ci.toNat A.at_.toNat A.op A.x A.y, 1, ⟨B, none⟩⟩ else ⟨3, [], L, 0, ⟨B, none⟩⟩
  | A :: A2 :: l, t => if okB L ci ce A.op A.at_ then ⟨1, [], doL L ci.toNat A.at_.toNat A.op A.x A.y, 1, ⟨B, some (A2 :: l, t ++ [peekOf L ci A.at_])⟩⟩ else ⟨3, [], L, 0, ⟨B, none⟩⟩
def pickJ (L : List Reg) (ci ce : Int) (J : Job) : PickR :=
  match J.cur with
  | none => match J.box with
    | [] => ⟨0, [], L, 0, ⟨[], none⟩⟩
    | l :: B => pickL L ci ce B l []
  | some (l, t) => pickL L ci ce J.box l t

/-- Small jobs. -/
def GoodT (J : Job) : Prop := (∀ l ∈ J.box, l.length ≤ 10) ∧ ∀ l t, J.cur = some (l, t) → l ≠ [] ∧ l.length + t.length ≤ 10
/-- One region of 8 words, behind k calls. -/
def Sized (L : List Reg) (cnt k : Nat) : Prop := L.length = 1 ∧ (L.getD 0 default).ws.length = 8 ∧ (L.getD 0 default).ep ≤ k + 1 ∧ cnt ≤ k
theorem Sized.up {L : List Reg} {cnt k : Nat} (h : Sized L cnt k) : Sized L cnt (k + 1) := ⟨h.1, h.2.1, by have := h.2.2.1; omega, by have := h.2.2.2; omega⟩
theorem Sized.doL {L : List Reg} {cnt k : Nat} (h : Sized L cnt k) (i j : Nat) (op x y : Int) : Sized (doL L i j op x y) (cnt + 1) (k + 1) := by
  obtain ⟨h1, h2, h3, h4⟩ := h
  match L, h1 with
  | [R], _ =>
    have e : (Ytiljledgoflogaa.doL [R] i j op x y).getD 0 default = if i = 0 then ⟨R.ws.set j (nextW op (R.ws.getD j 0) x y), R.ep⟩ else R := by
      unfold Ytiljledgoflogaa.doL
      cases i with
      | zero => simp
      | succ i => simp
    simp at h2 h3
    refine ⟨by simp [Ytiljledgoflogaa.doL], ?_, ?_, by omega⟩
    · rw [e]; split
      · simp [h2]
      · exact h2
    · rw [e]; split
      · simp; omega
      · omega
theorem Sized.bump {L : List Reg} {cnt k : Nat} (h : Sized L cnt k) : Sized (bumpL L 0) cnt (k + 1) := by
  obtain ⟨h1, h2, h3, h4⟩ := h
  match L, h1 with
  | [R], _ =>
    simp at h2 h3
    exact ⟨rfl, by simpa [bumpL] using h2, by simp [bumpL]; omega, by omega⟩
theorem Sized.cap {L : List Reg} {cnt k : Nat} (h : Sized L cnt k) : capOf L 0 = .agg #[.int .i64 0, .int .u64 ((L.getD 0 default).ep : Int)] := by
  have := capOf_at (L := L) (i := 0) (by have := h.1; omega)
  simpa using this

theorem pickL_one {L : List Reg} {ci ce : Int} {B : List (List Acc)} {A : Acc} {t : List Int} : pickL L ci ce B [A] t = if okB L ci ce A.op A.at_ then ⟨2, t ++ [peekOf L ci A.at_], doL L ci.toNat A.at_.toNat A.op A.x A.y, 1, ⟨B, none⟩⟩ else ⟨3, [], L, 0, ⟨B, none⟩⟩ := rfl
theorem pickL_two {L : List Reg} {ci ce : Int} {B : List (List Acc)} {A A2 : Acc} {l : List Acc} {t : List Int} : pickL L ci ce B (A :: A2 :: l) t = if okB L ci ce A.op A.at_ then ⟨1, [], doL L ci.toNat A.at_.toNat A.op A.x A.y, 1, ⟨B, some (A2 :: l, t ++ [peekOf L ci A.at_])⟩⟩ else ⟨3, [], L, 0, ⟨B, none⟩⟩ := rfl
theorem pickL_good {L : List Reg} {ci ce : Int} {B : List (List Acc)} {l : List Acc} {t : List Int} {cnt k : Nat} (hB : ∀ l ∈ B, l.length ≤ 10) (hl : l.length + t.length ≤ 10) (hs : Sized L cnt k) :
    GoodT (pickL L ci ce B l t).J ∧ Sized (pickL L ci ce B l t).L (cnt + (pickL L ci ce B l t).d) (k + 1) ∧ (pickL L ci ce B l t).J.box = B ∧ (pickL L ci ce B l t).told.length ≤ 10 := by
  have free : GoodT ⟨B, none⟩ := ⟨hB, fun _ _ e => by cases e⟩
  rcases l with _ | ⟨A, _ | ⟨A2, l⟩⟩
  · exact ⟨free, hs.up, rfl, by simpa [pickL] using hl⟩
  · rw [pickL_one]
    split
    · exact ⟨free, hs.doL _ _ _ _ _, rfl, by simp at hl ⊢; omega⟩
    · exact ⟨free, hs.up, rfl, by simp⟩
  · rw [pickL_two]
    split
    · exact ⟨⟨hB, fun l' t' e => by cases e; exact ⟨by simp, by simp at hl ⊢; omega⟩⟩, hs.doL _ _ _ _ _, rfl, by simp⟩
    · exact ⟨free, hs.up, rfl, by simp⟩
theorem pickJ_good {L : List Reg} {ci ce : Int} {J : Job} {cnt k : Nat} (hg : GoodT J) (hs : Sized L cnt k) :
    GoodT (pickJ L ci ce J).J ∧ Sized (pickJ L ci ce J).L (cnt + (pickJ L ci ce J).d) (k + 1) ∧ (pickJ L ci ce J).J.box.length ≤ J.box.length ∧ (pickJ L ci ce J).told.length ≤ 10 := by
  obtain ⟨box, cur⟩ := J
  obtain ⟨g1, g2⟩ := hg
  match cur, box, g1, g2 with
  | some (l, t), B, g1, g2 =>
    obtain ⟨a, b, c, d⟩ := pickL_good (L := L) (ci := ci) (ce := ce) (B := B) g1 (g2 l t rfl).2 hs
    exact ⟨a, b, by show (pickL L ci ce B l t).J.box.length ≤ _; rw [c]; exact Nat.le_refl _, d⟩
  | none, [], g1, g2 => exact ⟨⟨g1, g2⟩, hs.up, Nat.le_refl _, by simp [pickJ]⟩
  | none, l :: B, g1, g2 =>
    obtain ⟨a, b, c, d⟩ := pickL_good (L := L) (ci := ci) (ce := ce) (B := B) (l := l) (t := []) (fun l h => g1 l (by simp [h])) (by have := g1 l (by simp); simpa using this) hs
    exact ⟨a, b, by show (pickL L ci ce B l []).J.box.length ≤ _; rw [c]; simp, d⟩

theorem slcu_nil {F : Nat → Prop} {w : World} : SlcU F w (.slice none 0 0) [] := ⟨rfl, .inl ⟨rfl, rfl⟩⟩

section
variable {lo hi hq wp mp bp c cap : Nat} {w0 w w' : World} {L : List Reg} {cnt : Nat} {J : Job}
/-- What a worker's calls turn. -/
abbrev Own (lo hi wp c k : Nat) : Prop := (lo ≤ k ∧ k < hi) ∨ k = wp ∨ k = c
/-- What a worker's Pick answers. -/
def Picked (lo hi hq wp mp bp c cap : Nat) (w0 w : World) (cnt : Nat) (R : PickR) (e : Ending) (w' : World) : Prop :=
  ∃ ra rn rc, e = .returned (evt R.kind (.slice ra rn rc)) ∧ SlcU (FF lo hq) w' (.slice ra rn rc) R.told ∧ St lo hi hq wp mp bp c cap w0 w' R.L (cnt + R.d) R.J ∧ Sep (Own lo hi wp c) w w'
theorem St.go {B : List (List Acc)} {A : Acc} {l : List Acc} {told : List Int} (h : St lo hi hq wp mp bp c cap w0 w L cnt J) (hJ : J = ⟨B, some (A :: l, told)⟩ ∨ (J = ⟨(A :: l) :: B, none⟩ ∧ told = [])) (ci ce : Int) (hcnt : cnt < 1000000000) (hk : told.length ≤ 1000) (hl : l.length < 1000) :
    Calls Try.prog 54 #[.pointer (some ⟨wp, 0, none⟩), .agg #[.int .i64 ci, .int .u64 ce]] w (Picked lo hi hq wp mp bp c cap w0 w cnt (pickL L ci ce B (A :: l) told)) := by
  have ar := h.ar
  have le := h.le
  refine (pick_go h.wk hJ h.mem ci ce hcnt hk hl (fun b hb => by omega) (fun b hb => by omega) (fun b hb => by omega) (by omega) (by omega) (by omega)).mono ?_
  rintro e w' ⟨h2, hx⟩
  have i2 : In lo hq w0 w' := h.inn.trans (h2.mono fun _ _ _ => by omega)
  have le2 := Nat.le_trans h.le h2.size
  rcases hx with ⟨h3, rfl, h5, h6⟩ | ⟨h3, h5, ⟨rfl, ra, rc, h7, h8, h9⟩ | ⟨h6, h7, h9⟩⟩
  · have e : pickL L ci ce B (A :: l) told = ⟨3, [], L, 0, ⟨B, none⟩⟩ := by cases l <;> simp [pickL, h3]
    rw [e]
    exact ⟨_, _, _, rfl, slcu_nil, ⟨h6, h5, i2, le2, ar⟩, h2⟩
  · have e : pickL L ci ce B [A] told = ⟨2, told ++ [peekOf L ci A.at_], doL L ci.toNat A.at_.toNat A.op A.x A.y, 1, ⟨B, none⟩⟩ := by simp [pickL, h3]
    rw [e]
    exact ⟨_, _, _, h7, h8, ⟨h9, h5, i2, le2, ar⟩, h2⟩
  · obtain ⟨A2, l, rfl⟩ : ∃ A2 l', l = A2 :: l' := by
      cases l with
      | nil => exact absurd rfl h6
      | cons A2 l' => exact ⟨A2, l', rfl⟩
    have e : pickL L ci ce B (A :: A2 :: l) told = ⟨1, [], doL L ci.toNat A.at_.toNat A.op A.x A.y, 1, ⟨B, some (A2 :: l, told ++ [peekOf L ci A.at_])⟩⟩ := by simp [pickL, h3]
    rw [e]
    exact ⟨_, _, _, h7, slcu_nil, ⟨h9, h5, i2, le2, ar⟩, h2⟩
theorem St.pick (h : St lo hi hq wp mp bp c cap w0 w L cnt J) (hg : GoodT J) (ci ce : Int) (hcnt : cnt < 1000000000) :
    Calls Try.prog 54 #[.pointer (some ⟨wp, 0, none⟩), .agg #[.int .i64 ci, .int .u64 ce]] w (Picked lo hi hq wp mp bp c cap w0 w cnt (pickJ L ci ce J)) := by
  have ar := h.ar
  have le := h.le
  obtain ⟨box, cur⟩ := J
  obtain ⟨g1, g2⟩ := hg
  match cur, box, g1, g2, h with
  | some ([], t), B, g1, g2, h => exact absurd rfl (g2 [] t rfl).1
  | some (A :: l, t), B, g1, g2, h =>
    have := (g2 _ _ rfl).2
    simp at this
    exact h.go (.inl rfl) ci ce hcnt (by omega) (by omega)
  | none, [], g1, g2, h =>
    refine (pick_idle h.wk ci ce).mono ?_
    rintro e w' ⟨rfl, hs⟩
    exact ⟨_, _, _, rfl, slcu_nil, h.same hs, Same.sep hs _⟩
  | none, [] :: B, g1, g2, h =>
    refine (pick_nil h.wk ci ce (fun b hb => by omega) (fun b hb => by omega)).mono ?_
    rintro e w' ⟨ra, rc, rfl, h0, h1, h2⟩
    exact ⟨ra, 0, rc, rfl, h0, ⟨h1, h.mem.stay h2 (fun b _ _ _ => by omega), h.inn.trans (h2.mono fun _ _ _ => by omega), Nat.le_trans h.le h2.size, ar⟩, h2.mono fun _ _ h => .inr h⟩
  | none, (A :: l) :: B, g1, g2, h =>
    have := g1 (A :: l) (by simp)
    simp at this
    exact h.go (.inr ⟨rfl, rfl⟩) ci ce hcnt (by simp) (by omega)
theorem St.give2 (h : St lo hi hq wp mp bp c cap w0 w L cnt J) {a0 : Option Addr} {n0 c0 : Nat} {l : List Acc} (hv : ArgF (FF lo hq) w (.slice a0 n0 c0) l) (hr : J.box.length < cap) : Calls Try.prog 52 #[.pointer (some ⟨wp, 0, none⟩), .slice a0 n0 c0] w fun e w' => e = .returned (.int .i64 0) ∧ St lo hi hq wp mp bp c cap w0 w' L cnt ⟨J.box ++ [l], J.cur⟩ ∧ Sep (Own lo hi wp c) w w' := by
  have ar := h.ar
  refine (give_room h.wk hv (by omega) hr).mono ?_
  rintro e w' ⟨rfl, h1, h2⟩
  exact ⟨rfl, ⟨h1, h.mem.stay h2 (fun b _ _ _ => by omega), h.inn.trans (h2.mono fun _ _ _ => by omega), Nat.le_trans h.le h2.size, ar⟩, h2.mono fun _ _ h => .inr (.inr h)⟩
theorem St.bump (h : St lo hi hq wp mp bp c cap w0 w L cnt J) (hL : 0 < L.length) (he : (L.getD 0 default).ep < 1000000) : Calls Try.prog 25 #[.pointer (some ⟨mp, 0, none⟩), .int .i64 0] w fun e w' => ∃ x y, e = .returned (.tuple #[x, y]) ∧ St lo hi hq wp mp bp c cap w0 w' (bumpL L 0) cnt J ∧ Sep (Own lo hi wp c) w w' := by
  have ar := h.ar
  refine (bump_at h.mem hL 0 rfl _ rfl he).mono ?_
  rintro e w' ⟨rfl, h1, h2⟩
  exact ⟨_, _, rfl, ⟨h.wk.stay h2 (fun b hb _ h => by omega) (by omega) (by omega) (by omega), h1, h.inn.trans (h2.mono fun _ _ _ => by omega), Nat.le_trans h.le h2.size, ar⟩, h2.mono fun _ _ h => .inl h⟩
theorem St.keep {S : Nat → Prop} (h : St lo hi hq wp mp bp c cap w0 w L cnt J) (hs : Sep S w w') (hS : ∀ k, S k → hi ≤ k ∧ k < hq ∧ k ≠ wp ∧ k ≠ bp ∧ k ≠ c) : St lo hi hq wp mp bp c cap w0 w' L cnt J := by
  have ar := h.ar
  exact ⟨h.wk.stay hs (fun b hb _ k => by have := hS b k; omega) (fun k => (hS _ k).2.2.1 rfl) (fun k => (hS _ k).2.2.2.1 rfl) (fun k => (hS _ k).2.2.2.2 rfl), h.mem.stay hs (fun b _ _ k => by have := hS b k; omega), h.inn.trans (hs.mono fun k _ x => by have := hS k x; omega), Nat.le_trans h.le hs.size, ar⟩
theorem St.wide {hq' : Nat} (h : St lo hi hq wp mp bp c cap w0 w L cnt ⟨[], none⟩) (h1 : hq ≤ hq') (h2 : hq' ≤ w.heap.size) : St lo hi hq' wp mp bp c cap w0 w L cnt ⟨[], none⟩ :=
  ⟨h.wk.free, h.mem, h.inn.mono fun k _ x => by omega, h2, by have := h.ar; omega⟩
theorem St.make2 {w1 : World} (n : Nat) (h1 : 1 ≤ n) (h2 : n ≤ 4096) (hm : Mem lo hi w1 mp L cnt) (hs : Same w0 w1) (hlo : w0.heap.size ≤ lo) (hhi : hi ≤ w1.heap.size) : Calls Try.prog 51 #[.pointer (some ⟨mp, 0, none⟩), .int .i64 n] w1 fun e w' =>
    ∃ wp bp c hq, e = .returned (.tuple #[.pointer (some ⟨wp, 0, none⟩), .int .i64 0]) ∧ St lo hi hq wp mp bp c n w0 w' L cnt ⟨[], none⟩ ∧ Same w1 w' ∧ w1.heap.size ≤ wp ∧ w1.heap.size ≤ bp ∧ w1.heap.size ≤ c ∧ hq = w'.heap.size := by
  refine (wnew_ok (F := fun _ => True) mp n h1 h2 w1).mono ?_
  rintro e w' ⟨wp, bp, c, rfl, hw, a1, a2, a3, hs2⟩
  obtain ⟨k1, k2, k3, _⟩ := hw.lt
  have hl := hm.lop
  exact ⟨wp, bp, c, w'.heap.size, rfl, ⟨hw.free, hm.same hs2, Same.sep (hs.trans hs2) _, Nat.le_refl _, hlo, by omega, by omega, by omega, by omega, by omega, by omega, by omega⟩, hs2, a1, a2, a3, rfl⟩
end

section
variable {F : Nat → Prop} {w : World} {size cnt : Nat} {L : List Reg} {J : Job}
/-- What the reference's worker's Pick answers. -/
def RPick (F : Nat → Prop) (size : Nat) (cnt : Nat) (R : PickR) (w : World) (e : Ending) (w' : World) : Prop :=
  ∃ v' mv' ra rn rc, e = .returned (.tuple #[v', mv', evt R.kind (.slice ra rn rc)]) ∧ SlcU F w' (.slice ra rn rc) R.told ∧ RW F w' v' size R.J ∧ RM F w' mv' R.L (cnt + R.d) ∧ Same w w'
theorem RW.go {v mv : Value} {B : List (List Acc)} {l0 : List Acc} {told : List Int} (h : RW F w v size J) (hJ : J = ⟨B, some (l0, told)⟩ ∨ (J = ⟨l0 :: B, none⟩ ∧ told = [])) (hm : RM F w mv L cnt) (ci ce : Int) (hF : ∀ b, w.heap.size ≤ b → F b) (hcnt : cnt < 1000000000) (hL1 : L.length ≤ 1000) (hL2 : ∀ i, i < L.length → (L.getD i default).ws.length ≤ 1000000) (hlt0 : told.length ≤ 1000) (hll0 : l0.length ≤ 1000) :
    Calls Try.prog 58 #[v, mv, .agg #[.int .i64 ci, .int .u64 ce]] w (RPick F size cnt (pickL L ci ce B l0 told) w) := by
  refine (rpick_go h hJ hm ci ce hF hcnt hL1 hL2 hlt0 hll0).mono ?_
  rintro e w' ⟨v', mv', ev, rfl, hs, ⟨rfl, ra, rc, rfl, h1, h2, h3⟩ | ⟨A, l, rfl, ⟨h3, rfl, h4, h5⟩ | ⟨h3, h4, ⟨rfl, ra, rc, rfl, h5, h6⟩ | ⟨h5, rfl, h6⟩⟩⟩⟩
  · exact ⟨_, _, _, _, _, rfl, h1, h2, h3, hs⟩
  · have e : pickL L ci ce B (A :: l) told = ⟨3, [], L, 0, ⟨B, none⟩⟩ := by cases l <;> simp [pickL, h3]
    rw [e]
    exact ⟨_, _, _, _, _, rfl, slcu_nil, h4, h5, hs⟩
  · have e : pickL L ci ce B [A] told = ⟨2, told ++ [peekOf L ci A.at_], doL L ci.toNat A.at_.toNat A.op A.x A.y, 1, ⟨B, none⟩⟩ := by simp [pickL, h3]
    rw [e]
    exact ⟨_, _, _, _, _, rfl, h5, h6, h4, hs⟩
  · obtain ⟨A2, l, rfl⟩ : ∃ A2 l', l = A2 :: l' := by
      cases l with
      | nil => exact absurd rfl h5
      | cons A2 l' => exact ⟨A2, l', rfl⟩
    have e : pickL L ci ce B (A :: A2 :: l) told = ⟨1, [], doL L ci.toNat A.at_.toNat A.op A.x A.y, 1, ⟨B, some (A2 :: l, told ++ [peekOf L ci A.at_])⟩⟩ := by simp [pickL, h3]
    rw [e]
    exact ⟨_, _, _, _, _, rfl, slcu_nil, h6, h4, hs⟩
theorem RW.pick {v mv : Value} (h : RW F w v size J) (hm : RM F w mv L cnt) (hg : GoodT J) (ci ce : Int) (hF : ∀ b, w.heap.size ≤ b → F b) (hcnt : cnt < 1000000000) (hL1 : L.length ≤ 1000) (hL2 : ∀ i, i < L.length → (L.getD i default).ws.length ≤ 1000000) :
    Calls Try.prog 58 #[v, mv, .agg #[.int .i64 ci, .int .u64 ce]] w (RPick F size cnt (pickJ L ci ce J) w) := by
  obtain ⟨box, cur⟩ := J
  obtain ⟨g1, g2⟩ := hg
  match cur, box, g1, g2, h with
  | some (l, t), B, g1, g2, h =>
    have := (g2 _ _ rfl).2
    exact h.go (.inl rfl) hm ci ce hF hcnt hL1 hL2 (by omega) (by omega)
  | none, [], g1, g2, h =>
    refine (rpick_idle h hm ci ce hF).mono ?_
    rintro e w' ⟨v', mv', rfl, h1, h2, hs⟩
    exact ⟨_, _, _, _, _, rfl, slcu_nil, h1, h2, hs⟩
  | none, l :: B, g1, g2, h =>
    have := g1 l (by simp)
    exact h.go (.inr ⟨rfl, rfl⟩) hm ci ce hF hcnt hL1 hL2 (by simp) (by omega)
end

/-- What the reference's values rest on. -/
abbrev FR (lo hi wp bp c bx bv bf b : Nat) : Prop := (b < lo ∨ hi ≤ b) ∧ b ≠ wp ∧ b ≠ bp ∧ b ≠ c ∧ b ≠ bx ∧ b ≠ bv ∧ b ≠ bf

/-- A worker and the reference's at the same jobs, memories at the same words. -/
structure Both (lo hi hq wp mp bp c size bx bv bf : Nat) (w0 w : World) (L : List Reg) (cnt : Nat) (J : Job) : Prop where
  st : St lo hi hq wp mp bp c size w0 w L cnt J
  xb : ∃ x0 x1 x2, w.heap[bx]? = some (.cells #[x0, x1, x2] 51) ∧ RM (FR lo hi wp bp c bx bv bf) w (.agg #[x0, x1, x2]) L cnt
  vb : ∃ v0 v1 v2 v3 v4, w.heap[bv]? = some (.cells #[v0, v1, v2, v3, v4] 118) ∧ RW (FR lo hi wp bp c bx bv bf) w (.agg #[v0, v1, v2, v3, v4]) size J
  fb : w.heap[bf]? = some (.cells #[.int .i64 0, .int .u64 1] 33)
  br : hi ≤ bx ∧ bx < hq ∧ hi ≤ bv ∧ bv < hq ∧ hi ≤ bf ∧ bf < hq ∧ bx ≠ wp ∧ bx ≠ bp ∧ bx ≠ c ∧ bv ≠ wp ∧ bv ≠ bp ∧ bv ≠ c ∧ bf ≠ wp ∧ bf ≠ bp ∧ bf ≠ c ∧ bx ≠ bv ∧ bx ≠ bf ∧ bv ≠ bf
section
variable {lo hi hq wp mp bp c size bx bv bf : Nat} {w0 w w' : World} {L L' : List Reg} {cnt cnt' : Nat} {J J' : Job}
theorem Both.same (h : Both lo hi hq wp mp bp c size bx bv bf w0 w L cnt J) (hs : Same w w') : Both lo hi hq wp mp bp c size bx bv bf w0 w' L cnt J := by
  obtain ⟨st, ⟨x0, x1, x2, x3, x4⟩, ⟨v0, v1, v2, v3, v4, v5, v6⟩, fb, br⟩ := h
  exact ⟨st.same hs, ⟨x0, x1, x2, Same.obj hs x3, x4.same hs⟩, ⟨v0, v1, v2, v3, v4, Same.obj hs v5, v6.same hs⟩, Same.obj hs fb, br⟩
/-- The arguments' lists, for the reference. -/
theorem St.argR (h : St lo hi hq wp mp bp c size w0 w L cnt J) (hb : hi ≤ bx ∧ hi ≤ bv ∧ hi ≤ bf) {v : Value} {l : List Acc} (hv : ArgA w0 v l) : ArgF (FR lo hi wp bp c bx bv bf) w v l := by
  have ar := h.ar
  exact ((hv.on (F := fun b => b < lo) (fun b hb => by omega)).stay h.inn (fun b hb _ k => by omega)).imp (fun b hb _ => by omega)
theorem rm_own {v : Value} (h : RM (FR lo hi wp bp c bx bv bf) w v L cnt) (hs : Sep (Own lo hi wp c) w w') : RM (FR lo hi wp bp c bx bv bf) w' v L cnt := h.stay hs (fun b hb _ k => by omega)
theorem rw_own {v : Value} (h : RW (FR lo hi wp bp c bx bv bf) w v size J) (hs : Sep (Own lo hi wp c) w w') : RW (FR lo hi wp bp c bx bv bf) w' v size J := h.stay hs (fun b hb _ k => by omega)
theorem RW.form {F : Nat → Prop} {v : Value} (h : RW F w v size J) : ∃ z0 z1 z2 z3 z4, v = .agg #[z0, z1, z2, z3, z4] := by
  obtain ⟨ba, bc, la, ln, lc, ta, tn, tc, vs, rfl, _⟩ := h
  exact ⟨_, _, _, _, _, rfl⟩
theorem RW.form2 {F : Nat → Prop} {z0 z1 z2 z3 z4 : Value} (h : RW F w (.agg #[z0, z1, z2, z3, z4]) size J) : z2 = .bool J.cur.isSome ∧ ∃ ba bc, z1 = .slice ba J.box.length bc := by
  obtain ⟨ba, bc, la, ln, lc, ta, tn, tc, vs, e, _⟩ := h
  simp at e
  exact ⟨e.2.2.1, _, _, e.2.1⟩
theorem RM.form3 {F : Nat → Prop} {z0 z1 z2 : Value} (h : RM F w (.agg #[z0, z1, z2]) L cnt) : z2 = .int .i64 cnt := by
  obtain ⟨wa, wc, ea, ec, e⟩ := h.form
  simp at e
  exact e.2.2
end

section
variable {lo hi hq wp mp bp c cap size : Nat} {w0 w w' : World} {L : List Reg} {cnt : Nat} {J J2 : Job} {F : Nat → Prop}
/-- A Give, whether there is room or not. -/
def giveJ (bo : Bool) (J : Job) (l : List Acc) : Job := if bo then ⟨J.box ++ [l], J.cur⟩ else J
theorem giveJ_good {bo : Bool} {l : List Acc} (hg : GoodT J) (hl : l.length ≤ 10) (hbo : bo = decide (J.box.length < size)) (hs : J.box.length ≤ size) : GoodT (giveJ bo J l) ∧ (giveJ bo J l).box.length ≤ size := by
  cases bo with
  | false => exact ⟨hg, hs⟩
  | true =>
    have h : J.box.length < size := by simpa using hbo.symm
    refine ⟨⟨fun x hx => ?_, hg.2⟩, by simp [giveJ]; omega⟩
    simp [giveJ] at hx
    rcases hx with hx | rfl
    · exact hg.1 x hx
    · exact hl
/-- What the reference's Give answers. -/
def RGiven (F : Nat → Prop) (size : Nat) (bo : Bool) (J2 : Job) (w : World) (e : Ending) (w' : World) : Prop :=
  ∃ z0 z1 z2 z3 z4, e = .returned (.tuple #[.agg #[z0, z1, z2, z3, z4], .bool bo]) ∧ RW F w' (.agg #[z0, z1, z2, z3, z4]) size J2 ∧ Same w w'
theorem rgive_any {v : Value} {l : List Acc} {la : Option Addr} {ln lc : Nat} (h : RW F w v size J) (hln : ln = l.length) (hv : ArgF F w (.slice la l.length lc) l) (hs : size ≤ 4096) (hF : ∀ b, w.heap.size ≤ b → F b) (bo : Bool) (hbo : bo = decide (J.box.length < size)) :
    Calls Try.prog 57 #[v, .slice la ln lc] w (RGiven F size bo (giveJ bo J l) w) := by
  subst hln
  cases bo with
  | false =>
    have hf : size ≤ J.box.length := by have : ¬ J.box.length < size := by simpa using hbo.symm
                                        omega
    obtain ⟨z0, z1, z2, z3, z4, rfl⟩ := h.form
    refine (rgive_full h la l.length lc hf).mono ?_
    rintro e w' ⟨rfl, hs⟩
    exact ⟨z0, z1, z2, z3, z4, rfl, h.same hs, hs⟩
  | true =>
    have hf : J.box.length < size := by simpa using hbo.symm
    refine (rgive_room h hv hf hs hF).mono ?_
    rintro e w' ⟨v', rfl, h2, hs⟩
    obtain ⟨z0, z1, z2, z3, z4, rfl⟩ := h2.form
    exact ⟨z0, z1, z2, z3, z4, rfl, h2, hs⟩
/-- What a worker's Give answers. -/
def Given (lo hi hq wp mp bp c cap : Nat) (w0 w : World) (L : List Reg) (cnt : Nat) (bo : Bool) (J2 : Job) (e : Ending) (w' : World) : Prop :=
  ∃ z : Int, e = .returned (.int .i64 z) ∧ ((bo = true ∧ z = 0) ∨ (bo = false ∧ z = 8)) ∧ St lo hi hq wp mp bp c cap w0 w' L cnt J2 ∧ Sep (Own lo hi wp c) w w'
theorem St.give_any (h : St lo hi hq wp mp bp c cap w0 w L cnt J) {a0 : Option Addr} {n0 c0 : Nat} {l : List Acc} (hn : n0 = l.length) (hv : ArgF (FF lo hq) w (.slice a0 l.length c0) l) (bo : Bool) (hbo : bo = decide (J.box.length < cap)) :
    Calls Try.prog 52 #[.pointer (some ⟨wp, 0, none⟩), .slice a0 n0 c0] w (Given lo hi hq wp mp bp c cap w0 w L cnt bo (giveJ bo J l)) := by
  subst hn
  cases bo with
  | false =>
    have hf : cap ≤ J.box.length := by have : ¬ J.box.length < cap := by simpa using hbo.symm
                                       omega
    refine (give_full h.wk a0 l.length c0 hf).mono ?_
    rintro e w' ⟨rfl, rfl⟩
    exact ⟨8, rfl, .inr ⟨rfl, rfl⟩, h, Sep.refl _ _⟩
  | true =>
    have hf : J.box.length < cap := by simpa using hbo.symm
    refine (h.give2 hv hf).mono ?_
    rintro e w' ⟨rfl, h2, hs⟩
    exact ⟨0, rfl, .inl ⟨rfl, rfl⟩, h2, hs⟩
end

theorem ArgP.same {w w' : World} {a : Option Addr} {ls : List PCall} (h : ArgP w a ls) (hs : Same w w') : ArgP w' a ls := by
  rcases h with h | ⟨b, off, rfl, hb, h1⟩
  · exact .inl h
  · refine .inr ⟨b, off, rfl, Nat.lt_of_lt_of_le hb hs.size, fun i hi => ?_⟩
    obtain ⟨k1, k2, va, vc, k3, k4⟩ := h1 i hi
    exact ⟨Same.cell hs k1, Same.cell hs k2, va, vc, Same.cell hs k3, k4.same hs⟩
theorem few5_n (a0 : Option Addr) (n c0 : Nat) (ls : List PCall) (w : World) (hn : n = ls.length) (q0 : ArgP w a0 ls) : Calls Try.prog 56 #[.slice a0 n c0] w (FewR ls w) := by
  subst hn
  exact few5_any a0 c0 ls w q0
theorem St.prow {lo hi hq wp mp bp c cap : Nat} {w0 w : World} {L : List Reg} {cnt : Nat} {J : Job} (h : St lo hi hq wp mp bp c cap w0 w L cnt J) {a : Option Addr} {ls : List PCall} (hr : ArgP w0 a ls) {k : Nat} (hk : k < ls.length) :
    ∃ b off va vc, a = some ⟨b, off, none⟩ ∧ b < lo ∧ w.cell? ⟨b, off + k * 3, none⟩ = some (.int .i64 (ls.getD k default).kind) ∧ w.cell? ⟨b, off + k * 3 + 1, none⟩ = some (.bool (ls.getD k default).stale) ∧ w.cell? ⟨b, off + k * 3 + 2, none⟩ = some (.slice va (ls.getD k default).l.length vc) ∧
      ArgA w0 (.slice va (ls.getD k default).l.length vc) (ls.getD k default).l := by
  have ar := h.ar
  rcases hr with rfl | ⟨b, off, rfl, hb, h1⟩
  · simp at hk
  · obtain ⟨k1, k2, va, vc, k3, k4⟩ := h1 k hk
    exact ⟨b, off, va, vc, rfl, by omega, Sep.cell h.inn k1 (by simp; omega), Sep.cell h.inn k2 (by simp; omega), Sep.cell h.inn k3 (by simp; omega), k4⟩
end Go.Proofs.Ytiljledgoflogaa
