/- Done, Load, Store, Swap, Set, Try, Get: their contracts over trees. -/
import Derived.Test.YtiljledgoflogaaV
namespace Go.Proofs.Ytiljledgoflogaa
open Go.RowKit
set_option linter.unusedSimpArgs false
set_option linter.unusedVariables false

section
variable {R : Type} {Y : Lay R} {p : PT R} {F : Nat → Prop} {w w' w1 w2 w3 : World} {v : Value} {b : Nat}
/-- A call's result, laid into a block of the caller's own. -/
theorem Is.laid (hI : Is Y p w2 (Grown F w w1) v) (hs : Sep (Part F w) w1 w2) (h01 : Same w' w1) (hb : b = w'.heap.size) (hlt : b < w1.heap.size) (hw : w.heap.size ≤ w'.heap.size) (h7 : Sep (fun k => k = b) w2 w3) :
    Is Y p w3 (Grown F w w') v ∧ Sep (Part F w) w' w3 := by
  refine ⟨(hI.keep (Sep.keeps h7 fun k _ hk e => ?_)).imp fun k _ hk => hk.1.imp id (fun x => Nat.le_trans h01.size x), sep_then ((Same.sep h01 _).trans hs) (by omega) h7⟩
  subst e
  rcases hk with hk | hk
  · have := hk.2; omega
  · omega
/-- The same, where what was called made its program of plain values alone. -/
theorem Is.laidM (hI : Is Y p w2 (fun k => w1.heap.size ≤ k) v) (hs : Same w1 w2) (h01 : Same w' w1) (hb : b = w'.heap.size) (hlt : b < w1.heap.size) (h7 : Sep (fun k => k = b) w2 w3) :
    Is Y p w3 (fun k => w'.heap.size ≤ k) v ∧ Same w' w3 := by
  refine ⟨(hI.keep (Sep.keeps h7 fun k _ hk e => ?_)).imp fun k _ hk => Nat.le_trans h01.size hk.1, same_then (h01.trans hs) (by omega) h7⟩
  subst e
  omega
end

theorem enters_of {K : Nat} {fn : Func} (hf : Try.prog.funcs[K]? = some fn) (hn : (fn.name == "runtime.NumGoroutine") = false) (hb : fn.body.isNone = false) : Enters K := fun args w => by
  have hn' : ¬ fn.name = "runtime.NumGoroutine" := by simpa using hn
  have hb' : ¬ fn.body = none := by
    intro h
    rw [h] at hb
    cases hb
  simp [callFunc, go_sem, hf, hn', hb']

theorem doneN (w : World) : Calls Try.prog 68 #[.agg #[]] w (Makes layN (.done ()) w) := by
  have key : ∀ w', Same w w' → Makes layN (.done ()) w (.returned (.agg #[.bool true, .int .i64 0, .int .i64 0, .int .u64 0, .int .u64 0, .nilFunc])) w' := fun w' hs => ⟨_, rfl, ⟨_, rfl, rfl⟩, hs⟩
  have KEY := Lib.hid key
  clear key
  have hz : (#[] : Array Value).zipIdx = #[] := rfl
  go_enter Try.func68, Try.ntmps68
  go_wp2
  exact bodyPost_ret (v := .agg #[.bool true, .int .i64 0, .int .i64 0, .int .u64 0, .int .u64 0, .nilFunc]) (by simp [results, Try.results68, go_sem]) rfl (KEY.out _ ((Sep.alloc _ _ _).thenAlloc _))

theorem doneB (b : Bool) (w : World) : Calls Try.prog 71 #[.bool b] w (Makes layB (.done b) w) := by
  have key : ∀ w', Same w w' → Makes layB (.done b) w (.returned (.agg #[.bool true, .bool b, .int .i64 0, .int .i64 0, .int .u64 0, .int .u64 0, .nilFunc])) w' := fun w' hs => ⟨_, rfl, ⟨_, rfl, rfl⟩, hs⟩
  have KEY := Lib.hid key
  clear key
  go_enter Try.func71, Try.ntmps71
  go_wp2
  exact bodyPost_ret (v := .agg #[.bool true, .bool b, .int .i64 0, .int .i64 0, .int .u64 0, .int .u64 0, .nilFunc]) (by simp [results, Try.results71, go_sem]) rfl (KEY.out _ (Sep.alloc _ _ _))

theorem doneU (z : Int) (hz : isU z) (w : World) : Calls Try.prog 74 #[.int .u64 z] w (Makes layU (.done z) w) := by
  have key : ∀ w', Same w w' → Makes layU (.done z) w (.returned (.agg #[.bool true, .int .u64 z, .int .i64 0, .int .i64 0, .int .u64 0, .int .u64 0, .nilFunc])) w' := fun w' hs => ⟨_, rfl, ⟨_, rfl, ⟨rfl, hz⟩⟩, hs⟩
  have KEY := Lib.hid key
  clear key
  go_enter Try.func74, Try.ntmps74
  go_wp2
  exact bodyPost_ret (v := .agg #[.bool true, .int .u64 z, .int .i64 0, .int .i64 0, .int .u64 0, .int .u64 0, .nilFunc]) (by simp [results, Try.results74, go_sem]) rfl (KEY.out _ (Sep.alloc _ _ _))

theorem enters67 : Enters 67 := enters_of Try.func67 (by kernel_rfl) (by kernel_rfl)
theorem enters88 : Enters 88 := enters_of Try.func88 (by kernel_rfl) (by kernel_rfl)
theorem enters71 : Enters 71 := enters_of Try.func71 (by kernel_rfl) (by kernel_rfl)
theorem enters74 : Enters 74 := enters_of Try.func74 (by kernel_rfl) (by kernel_rfl)
theorem enters90 : Enters 90 := enters_of Try.func90 (by kernel_rfl) (by kernel_rfl)

theorem set67 (w : World) : Calls Try.prog 67 #[] w (Makes layN (.done ()) w) := by
  have hs0 : Same w (w.alloc (.cells #[.bool false, .int .i64 0, .int .i64 0, .int .u64 0, .int .u64 0, .nilFunc] 68)) := Sep.alloc _ _ _
  have hob0 : (w.alloc (.cells #[.bool false, .int .i64 0, .int .i64 0, .int .u64 0, .int .u64 0, .nilFunc] 68)).heap[w.heap.size]? = some (.cells #[.bool false, .int .i64 0, .int .i64 0, .int .u64 0, .int .u64 0, .nilFunc] 68) := heap_alloc_new _ _
  obtain ⟨W, hW⟩ : ∃ W, W = w.alloc (.cells #[.bool false, .int .i64 0, .int .i64 0, .int .u64 0, .int .u64 0, .nilFunc] 68) := ⟨_, rfl⟩
  have hsz : w.heap.size < W.heap.size := by rw [hW]; simp
  rw [← hW] at hs0 hob0
  obtain ⟨b0, hb0⟩ : ∃ b, b = w.heap.size := ⟨_, rfl⟩
  have HW := Lib.hid hW
  have HB := Lib.hid hb0
  clear hW
  go_enter Try.func67, Try.ntmps67
  go_wp2_with fail
  rw [← HW.out]
  refine (doneN W).mono ?_
  rintro e w2 ⟨v2, rfl, hI, hs2⟩
  rw [← HB.out] at hob0 hsz ⊢
  have hob := hs2.obj hob0
  have HI := Lib.hid hI
  clear hI hob0 hb0
  obtain ⟨c0, c1, c2, c3, c4, c5, cf⟩ := cells6 hob
  obtain ⟨o2, A2, nx2, rfl, pn⟩ := formN HI.out.form
  unfold Plain at *
  clear hob
  go_wp2
  have h7 := sep6 w2 b0 (.bool o2) (.int .i64 A2.op) (.int .i64 A2.at_) (.int .u64 A2.x) (.int .u64 A2.y) (nx2)
  refine bodyPost_ret (v := .agg #[.bool o2, .int .i64 A2.op, .int .i64 A2.at_, .int .u64 A2.x, .int .u64 A2.y, nx2]) (by simp [results, Try.results67, go_sem, c0, c1, c2, c3, c4, c5]) rfl ?_
  obtain ⟨h8, h9⟩ := HI.out.laidM hs2 hs0 HB.out hsz h7
  exact ⟨_, rfl, h8, h9⟩

theorem Keeps.under {F G : Nat → Prop} {w W w' : World} (hk : Keeps G W w') (hs : Same w W) (hg : ∀ b, b < w.heap.size → F b → G b) : Keeps F w w' :=
  ⟨Nat.le_trans hs.size hk.1, fun b hb hF => (hk.2 b (Nat.lt_of_lt_of_le hb hs.size) (hg b hb hF)).trans (hs.block b hb (fun x => x))⟩
theorem Gives.imp {R : Type} {Y : Lay R} {p : PT R} {F G : Nat → Prop} {w W w' : World} {e : Ending} {w'' : World} (h : Gives Y p F w w' e w'') (hg : ∀ b, b < w.heap.size → F b → G b) (hw : w.heap.size ≤ W.heap.size) : Gives Y p G W w' e w'' := by
  obtain ⟨v, rfl, hi, hs⟩ := h
  exact ⟨v, rfl, hi.imp fun b _ hb => hb.imp (fun x => ⟨hg b x.2 x.1, Nat.lt_of_lt_of_le x.2 hw⟩) id, hs.mono fun b _ hb => ⟨hg b hb.2 hb.1, Nat.lt_of_lt_of_le hb.2 hw⟩⟩

theorem heap_at1_0 (w : World) (o : Obj) : (w.alloc o).heap[w.heap.size]? = some o := heap_alloc_new _ _
theorem heap_at2_0 (w : World) (o q : Obj) : ((w.alloc o).alloc q).heap[w.heap.size]? = some o := by
  rw [Below.heap_alloc _ _ _ (by simp)]; exact heap_alloc_new _ _
theorem heap_at2_1 (w : World) (o q : Obj) : ((w.alloc o).alloc q).heap[w.heap.size + 1]? = some q := by
  have e : (w.alloc o).heap.size = w.heap.size + 1 := by simp
  rw [← e]; exact heap_alloc_new _ _
theorem heap_at3_0 (w : World) (o q r : Obj) : (((w.alloc o).alloc q).alloc r).heap[w.heap.size]? = some o := by
  rw [Below.heap_alloc _ _ _ (by simp; omega)]; exact heap_at2_0 _ _ _
theorem heap_at3_1 (w : World) (o q r : Obj) : (((w.alloc o).alloc q).alloc r).heap[w.heap.size + 1]? = some q := by
  rw [Below.heap_alloc _ _ _ (by simp)]; exact heap_at2_1 _ _ _
theorem heap_at3_2 (w : World) (o q r : Obj) : (((w.alloc o).alloc q).alloc r).heap[w.heap.size + 2]? = some r := by
  have e : ((w.alloc o).alloc q).heap.size = w.heap.size + 2 := by simp
  rw [← e]; exact heap_alloc_new _ _

set_option maxRecDepth 100000 in
theorem clo88 {p : PT Unit} {F : Nat → Prop} {w0 w : World} {K : Nat} {caps : Array Value} {z : Int} {b0 : Nat} (hb : w.heap[b0]? = some (.cells #[.func (.func K) #[] caps] 146)) (hK : Enters K) (hf : ∀ w1, Same w w1 → Calls Try.prog K (caps) w1 (Gives layN p F w0 w1)) (hw : w0.heap.size ≤ w.heap.size) :
    Calls Try.prog 88 #[.int .u64 z, .pointer (some ⟨b0, 0, none⟩)] w (Gives layN p F w0 w) := by
  obtain ⟨W, hW⟩ : ∃ W, W = (w.alloc (.cells #[.bool false, .int .i64 0, .int .i64 0, .int .u64 0, .int .u64 0, .nilFunc] 68)) := ⟨_, rfl⟩
  have hs0 : Same w W := by rw [hW]; exact Sep.alloc _ _ _
  have hsz : W.heap.size = w.heap.size + 1 := by rw [hW]; simp
  have ob0 : W.heap[w.heap.size]? = some (.cells #[.bool false, .int .i64 0, .int .i64 0, .int .u64 0, .int .u64 0, .nilFunc] 68) := by rw [hW]; exact heap_at1_0 _ _
  have HW := Lib.hid hW
  have HSZ := Lib.hid hsz
  have OB0 := Lib.hid ob0
  clear hW hsz ob0
  have bx0 := hs0.cell (cell_of_one hb)
  rw [HW.out] at bx0
  unfold Enters at hK
  go_enter Try.func88, Try.ntmps88
  go_wp2_with fail
  rw [← HW.out]
  refine (hf W hs0).mono ?_
  rintro e w2 ⟨v2, rfl, hI, hs2⟩
  have hob := Sep.obj hs2 OB0.out (fun h => by have := h.2; omega)
  have HI := Lib.hid hI
  have HS2 := Lib.hid hs2
  have HS0 := Lib.hid hs0
  clear hI hs2 hs0
  obtain ⟨c0, c1, c2, c3, c4, c5, cf⟩ := cells6 hob
  obtain ⟨o2, A2, nx2, rfl, pn⟩ := formN HI.out.form
  unfold Plain at *
  clear hob
  go_wp2
  have h7 := sep6 w2 w.heap.size (.bool o2) (.int .i64 A2.op) (.int .i64 A2.at_) (.int .u64 A2.x) (.int .u64 A2.y) (nx2)
  refine bodyPost_ret (v := .agg #[.bool o2, .int .i64 A2.op, .int .i64 A2.at_, .int .u64 A2.x, .int .u64 A2.y, nx2]) (by simp [results, Try.results88, go_sem, c0, c1, c2, c3, c4, c5]) rfl ?_
  obtain ⟨h8, h9⟩ := HI.out.laid HS2.out HS0.out rfl (by have := HSZ.out; omega) hw h7
  exact ⟨_, rfl, h8, h9⟩

set_option maxRecDepth 100000 in
theorem clo90 {p : PT Bool} {F : Nat → Prop} {w0 w : World} {K : Nat} {caps : Array Value} {z : Int} {b0 b1 : Nat} {was : Int} (hb : w.heap[b0]? = some (.cells #[.func (.func K) #[] caps] 150)) (hb1 : w.heap[b1]? = some (.cells #[.int .u64 was] 23)) (hK : Enters K) (hf : ∀ w1, Same w w1 → Calls Try.prog K (#[.bool (z == was)] ++ caps) w1 (Gives layB p F w0 w1)) (hw : w0.heap.size ≤ w.heap.size) :
    Calls Try.prog 90 #[.int .u64 z, .pointer (some ⟨b0, 0, none⟩), .pointer (some ⟨b1, 0, none⟩)] w (Gives layB p F w0 w) := by
  obtain ⟨W, hW⟩ : ∃ W, W = (w.alloc (.cells #[.bool false, .bool false, .int .i64 0, .int .i64 0, .int .u64 0, .int .u64 0, .nilFunc] 74)) := ⟨_, rfl⟩
  have hs0 : Same w W := by rw [hW]; exact Sep.alloc _ _ _
  have hsz : W.heap.size = w.heap.size + 1 := by rw [hW]; simp
  have ob0 : W.heap[w.heap.size]? = some (.cells #[.bool false, .bool false, .int .i64 0, .int .i64 0, .int .u64 0, .int .u64 0, .nilFunc] 74) := by rw [hW]; exact heap_at1_0 _ _
  have HW := Lib.hid hW
  have HSZ := Lib.hid hsz
  have OB0 := Lib.hid ob0
  clear hW hsz ob0
  have bx0 := hs0.cell (cell_of_one hb)
  rw [HW.out] at bx0
  have bx1 := hs0.cell (cell_of_one hb1)
  rw [HW.out] at bx1
  unfold Enters at hK
  go_enter Try.func90, Try.ntmps90
  go_wp2_with fail
  rw [← HW.out]
  refine (hf W hs0).mono ?_
  rintro e w2 ⟨v2, rfl, hI, hs2⟩
  have hob := Sep.obj hs2 OB0.out (fun h => by have := h.2; omega)
  have HI := Lib.hid hI
  have HS2 := Lib.hid hs2
  have HS0 := Lib.hid hs0
  clear hI hs2 hs0
  obtain ⟨c0, c1, c2, c3, c4, c5, c6, cf⟩ := cells7 hob
  obtain ⟨o2, r0, A2, nx2, rfl, pr0, pn⟩ := formB HI.out.form
  unfold Plain at *
  clear hob
  go_wp2
  have h7 := sep7 w2 w.heap.size (.bool o2) (r0) (.int .i64 A2.op) (.int .i64 A2.at_) (.int .u64 A2.x) (.int .u64 A2.y) (nx2)
  refine bodyPost_ret (v := .agg #[.bool o2, r0, .int .i64 A2.op, .int .i64 A2.at_, .int .u64 A2.x, .int .u64 A2.y, nx2]) (by simp [results, Try.results90, go_sem, c0, c1, c2, c3, c4, c5, c6]) rfl ?_
  obtain ⟨h8, h9⟩ := HI.out.laid HS2.out HS0.out rfl (by have := HSZ.out; omega) hw h7
  exact ⟨_, rfl, h8, h9⟩

set_option maxRecDepth 100000 in
theorem storeN {p : PT Unit} {at_ x : Int} {F : Nat → Prop} {w : World} {K : Nat} {caps : Array Value} (hK : Enters K) (hf : ∀ w', Keeps F w w' → Calls Try.prog K caps w' (Gives layN p F w w')) :
    Calls Try.prog 66 #[.int .i64 at_, .int .u64 x, .func (.func K) #[] caps] w fun e w' => ∃ v, e = .returned v ∧ Is layN (.step ⟨1, at_, x, 0⟩ fun _ => p) w' (fun b => Part F w b ∨ w.heap.size ≤ b) v ∧ Same w w' := by
  obtain ⟨W, hW⟩ : ∃ W, W = ((w.alloc (.cells #[.func (.func K) #[] caps] 146)).alloc (.cells #[.bool false, .int .i64 0, .int .i64 0, .int .u64 0, .int .u64 0, .nilFunc] 68)) := ⟨_, rfl⟩
  have hs0 : Same w W := by rw [hW]; exact (Sep.alloc _ _ _).thenAlloc _
  have hsz : W.heap.size = w.heap.size + 2 := by rw [hW]; simp
  have ob0 : W.heap[w.heap.size]? = some (.cells #[.func (.func K) #[] caps] 146) := by rw [hW]; exact heap_at2_0 _ _ _
  have ob1 : W.heap[w.heap.size + 1]? = some (.cells #[.bool false, .int .i64 0, .int .i64 0, .int .u64 0, .int .u64 0, .nilFunc] 68) := by rw [hW]; exact heap_at2_1 _ _ _
  have HW := Lib.hid hW
  have HSZ := Lib.hid hsz
  have OB0 := Lib.hid ob0
  have OB1 := Lib.hid ob1
  clear hW hsz ob0 ob1
  have hin := doN (w := W) (F := fun b => Part F w b ∨ b = w.heap.size) (A := ⟨1, at_, x, 0⟩) (p := fun _ => p) (caps := #[.pointer (some ⟨w.heap.size, 0, none⟩)]) enters88 (fun w' hk z hz =>
    (clo88 (p := p) (F := F) (w0 := w) (z := z) (hk.obj OB0.out (.inr rfl)) hK (fun w1 h1 => hf w1 ((hk.under hs0 fun b hb hF => .inl ⟨hF, hb⟩).trans (Same.keeps h1))) (Nat.le_trans hs0.size hk.1)).mono fun e w'' h => h.imp (fun b hb hF => .inl ⟨hF, hb⟩) hs0.size)
  have HIN := Lib.hid hin
  have HS0 := Lib.hid hs0
  clear hin hs0 hf
  go_enter Try.func66, Try.ntmps66
  go_wp2_with fail
  rw [← HW.out]
  refine HIN.out.mono ?_
  rintro e w2 ⟨v2, rfl, hI, hs2⟩
  have hob := Same.obj hs2 OB1.out
  have HI := Lib.hid hI
  have HS2 := Lib.hid hs2
  clear hI hs2
  obtain ⟨c0, c1, c2, c3, c4, c5, cf⟩ := cells6 hob
  obtain ⟨o2, A2, nx2, rfl, pn⟩ := formN HI.out.form
  unfold Plain at *
  clear hob
  go_wp2
  have h7 := sep6 w2 (w.heap.size + 1) (.bool o2) (.int .i64 A2.op) (.int .i64 A2.at_) (.int .u64 A2.x) (.int .u64 A2.y) (nx2)
  refine bodyPost_ret (v := .agg #[.bool o2, .int .i64 A2.op, .int .i64 A2.at_, .int .u64 A2.x, .int .u64 A2.y, nx2]) (by simp [results, Try.results66, go_sem, c0, c1, c2, c3, c4, c5]) rfl ?_
  have hlt := HSZ.out
  refine ⟨_, rfl, (HI.out.keep (Sep.keeps h7 fun k _ hk e => ?_)).imp fun k _ hk => ?_, same_then (HS0.out.trans HS2.out) (by omega) h7⟩
  · subst e
    rcases hk.1 with hk | hk
    · have := hk.2; omega
    · omega
  · rcases hk.1.1 with hk | hk
    · exact .inl hk
    · exact .inr (by omega)

set_option maxRecDepth 100000 in
theorem swapB {p : Bool → PT Bool} {at_ x y : Int} {F : Nat → Prop} {w : World} {K : Nat} {caps : Array Value} (hK : Enters K) (hf : ∀ w', Keeps F w w' → ∀ b : Bool, Calls Try.prog K (#[.bool b] ++ caps) w' (Gives layB (p b) F w w')) :
    Calls Try.prog 70 #[.int .i64 at_, .int .u64 x, .int .u64 y, .func (.func K) #[] caps] w fun e w' => ∃ v, e = .returned v ∧ Is layB (.step ⟨2, at_, x, y⟩ fun z => p (z == x)) w' (fun b => Part F w b ∨ w.heap.size ≤ b) v ∧ Same w w' := by
  obtain ⟨W, hW⟩ : ∃ W, W = (((w.alloc (.cells #[.int .u64 x] 23)).alloc (.cells #[.func (.func K) #[] caps] 150)).alloc (.cells #[.bool false, .bool false, .int .i64 0, .int .i64 0, .int .u64 0, .int .u64 0, .nilFunc] 74)) := ⟨_, rfl⟩
  have hs0 : Same w W := by rw [hW]; exact ((Sep.alloc _ _ _).thenAlloc _).thenAlloc _
  have hsz : W.heap.size = w.heap.size + 3 := by rw [hW]; simp
  have ob0 : W.heap[w.heap.size]? = some (.cells #[.int .u64 x] 23) := by rw [hW]; exact heap_at3_0 _ _ _ _
  have ob1 : W.heap[w.heap.size + 1]? = some (.cells #[.func (.func K) #[] caps] 150) := by rw [hW]; exact heap_at3_1 _ _ _ _
  have ob2 : W.heap[w.heap.size + 2]? = some (.cells #[.bool false, .bool false, .int .i64 0, .int .i64 0, .int .u64 0, .int .u64 0, .nilFunc] 74) := by rw [hW]; exact heap_at3_2 _ _ _ _
  have HW := Lib.hid hW
  have HSZ := Lib.hid hsz
  have OB0 := Lib.hid ob0
  have OB1 := Lib.hid ob1
  have OB2 := Lib.hid ob2
  clear hW hsz ob0 ob1 ob2
  have hin := doB (w := W) (F := fun b => Part F w b ∨ (b = w.heap.size ∨ b = w.heap.size + 1)) (A := ⟨2, at_, x, y⟩) (p := fun z => p (z == x)) (caps := #[.pointer (some ⟨w.heap.size + 1, 0, none⟩), .pointer (some ⟨w.heap.size, 0, none⟩)]) enters90 (fun w' hk z hz =>
    (clo90 (p := p (z == x)) (F := F) (w0 := w) (z := z) (hk.obj OB1.out (.inr (.inr rfl))) (hk.obj OB0.out (.inr (.inl rfl))) hK (fun w1 h1 => hf w1 ((hk.under hs0 fun b hb hF => .inl ⟨hF, hb⟩).trans (Same.keeps h1)) _) (Nat.le_trans hs0.size hk.1)).mono fun e w'' h => h.imp (fun b hb hF => .inl ⟨hF, hb⟩) hs0.size)
  have HIN := Lib.hid hin
  have HS0 := Lib.hid hs0
  clear hin hs0 hf
  go_enter Try.func70, Try.ntmps70
  go_wp2_with fail
  rw [← HW.out]
  refine HIN.out.mono ?_
  rintro e w2 ⟨v2, rfl, hI, hs2⟩
  have hob := Same.obj hs2 OB2.out
  have HI := Lib.hid hI
  have HS2 := Lib.hid hs2
  clear hI hs2
  obtain ⟨c0, c1, c2, c3, c4, c5, c6, cf⟩ := cells7 hob
  obtain ⟨o2, r0, A2, nx2, rfl, pr0, pn⟩ := formB HI.out.form
  unfold Plain at *
  clear hob
  go_wp2
  have h7 := sep7 w2 (w.heap.size + 2) (.bool o2) (r0) (.int .i64 A2.op) (.int .i64 A2.at_) (.int .u64 A2.x) (.int .u64 A2.y) (nx2)
  refine bodyPost_ret (v := .agg #[.bool o2, r0, .int .i64 A2.op, .int .i64 A2.at_, .int .u64 A2.x, .int .u64 A2.y, nx2]) (by simp [results, Try.results70, go_sem, c0, c1, c2, c3, c4, c5, c6]) rfl ?_
  have hlt := HSZ.out
  refine ⟨_, rfl, (HI.out.keep (Sep.keeps h7 fun k _ hk e => ?_)).imp fun k _ hk => ?_, same_then (HS0.out.trans HS2.out) (by omega) h7⟩
  · subst e
    rcases hk.1 with hk | hk
    · have := hk.2; omega
    · omega
  · rcases hk.1.1 with hk | hk
    · exact .inl hk
    · exact .inr (by omega)

set_option maxRecDepth 100000 in
theorem loadU {p : Int → PT Int} {at_ : Int} {F : Nat → Prop} {w : World} {K : Nat} {caps : Array Value} (hK : Enters K) (hf : ∀ w', Keeps F w w' → ∀ z, isU z → Calls Try.prog K (#[.int .u64 z] ++ caps) w' (Gives layU (p z) F w w')) :
    Calls Try.prog 73 #[.int .i64 at_, .func (.func K) #[] caps] w fun e w' => ∃ v, e = .returned v ∧ Is layU (.step ⟨0, at_, 0, 0⟩ p) w' (fun b => Part F w b ∨ w.heap.size ≤ b) v ∧ Same w w' := by
  obtain ⟨W, hW⟩ : ∃ W, W = (w.alloc (.cells #[.bool false, .int .u64 0, .int .i64 0, .int .i64 0, .int .u64 0, .int .u64 0, .nilFunc] 80)) := ⟨_, rfl⟩
  have hs0 : Same w W := by rw [hW]; exact Sep.alloc _ _ _
  have hsz : W.heap.size = w.heap.size + 1 := by rw [hW]; simp
  have ob0 : W.heap[w.heap.size]? = some (.cells #[.bool false, .int .u64 0, .int .i64 0, .int .i64 0, .int .u64 0, .int .u64 0, .nilFunc] 80) := by rw [hW]; exact heap_at1_0 _ _
  have HW := Lib.hid hW
  have HSZ := Lib.hid hsz
  have OB0 := Lib.hid ob0
  clear hW hsz ob0
  have hin := doU (w := W) (F := fun b => Part F w b ∨ b < 0) (A := ⟨0, at_, 0, 0⟩) (p := p) (caps := caps) hK (fun w' hk z hz =>
    (hf w' (hk.under hs0 fun b hb hF => .inl ⟨hF, hb⟩) z hz).mono fun e w'' h => h.imp (fun b hb hF => .inl ⟨hF, hb⟩) hs0.size)
  have HIN := Lib.hid hin
  have HS0 := Lib.hid hs0
  clear hin hs0 hf
  go_enter Try.func73, Try.ntmps73
  go_wp2_with fail
  rw [← HW.out]
  refine HIN.out.mono ?_
  rintro e w2 ⟨v2, rfl, hI, hs2⟩
  have hob := Same.obj hs2 OB0.out
  have HI := Lib.hid hI
  have HS2 := Lib.hid hs2
  clear hI hs2
  obtain ⟨c0, c1, c2, c3, c4, c5, c6, cf⟩ := cells7 hob
  obtain ⟨o2, r0, A2, nx2, rfl, pr0, pn⟩ := formU HI.out.form
  unfold Plain at *
  clear hob
  go_wp2
  have h7 := sep7 w2 w.heap.size (.bool o2) (r0) (.int .i64 A2.op) (.int .i64 A2.at_) (.int .u64 A2.x) (.int .u64 A2.y) (nx2)
  refine bodyPost_ret (v := .agg #[.bool o2, r0, .int .i64 A2.op, .int .i64 A2.at_, .int .u64 A2.x, .int .u64 A2.y, nx2]) (by simp [results, Try.results73, go_sem, c0, c1, c2, c3, c4, c5, c6]) rfl ?_
  have hlt := HSZ.out
  refine ⟨_, rfl, (HI.out.keep (Sep.keeps h7 fun k _ hk e => ?_)).imp fun k _ hk => ?_, same_then (HS0.out.trans HS2.out) (by omega) h7⟩
  · subst e
    rcases hk.1 with hk | hk
    · have := hk.2; omega
    · omega
  · rcases hk.1.1 with hk | hk
    · exact .inl hk
    · exact .inr (by omega)

/-- The programs. -/
def setT (at_ x : Int) : PT Unit := .step ⟨1, at_, x, 0⟩ fun _ => .done ()
def tryT (at_ x y : Int) : PT Bool := .step ⟨2, at_, x, y⟩ fun z => .done (z == x)
def getT (at_ : Int) : PT Int := .step ⟨0, at_, 0, 0⟩ fun z => .done z

set_option maxRecDepth 100000 in
theorem set_any (at_ x : Int) (w : World) : Calls Try.prog 36 #[.int .i64 at_, .int .u64 x] w (Makes layN (setT at_ x) w) := by
  obtain ⟨W, hW⟩ : ∃ W, W = (w.alloc (.cells #[.bool false, .int .i64 0, .int .i64 0, .int .u64 0, .int .u64 0, .nilFunc] 68)) := ⟨_, rfl⟩
  have hs0 : Same w W := by rw [hW]; exact Sep.alloc _ _ _
  have hsz : W.heap.size = w.heap.size + 1 := by rw [hW]; simp
  have ob0 : W.heap[w.heap.size]? = some (.cells #[.bool false, .int .i64 0, .int .i64 0, .int .u64 0, .int .u64 0, .nilFunc] 68) := by rw [hW]; exact heap_at1_0 _ _
  have HW := Lib.hid hW
  have HSZ := Lib.hid hsz
  have OB0 := Lib.hid ob0
  clear hW hsz ob0
  have hin := storeN (w := W) (F := fun _ => False) (p := .done ()) (at_ := at_) (x := x) (caps := #[]) enters67 (fun w' _ => (set67 w').mono fun _ _ h => h.gives)
  have HIN := Lib.hid hin
  have HS0 := Lib.hid hs0
  clear hin hs0
  go_enter Try.func36, Try.ntmps36
  go_wp2_with fail
  rw [← HW.out]
  refine HIN.out.mono ?_
  rintro e w2 ⟨v2, rfl, hI, hs2⟩
  have hob := Same.obj hs2 OB0.out
  have HI := Lib.hid (hI.imp (G := fun k => W.heap.size ≤ k) fun k _ hk => hk.elim (fun x => x.1.elim) id)
  have HS2 := Lib.hid hs2
  clear hI hs2
  obtain ⟨c0, c1, c2, c3, c4, c5, cf⟩ := cells6 hob
  obtain ⟨o2, A2, nx2, rfl, pn⟩ := formN HI.out.form
  unfold Plain at *
  clear hob
  go_wp2
  have h7 := sep6 w2 w.heap.size (.bool o2) (.int .i64 A2.op) (.int .i64 A2.at_) (.int .u64 A2.x) (.int .u64 A2.y) (nx2)
  refine bodyPost_ret (v := .agg #[.bool o2, .int .i64 A2.op, .int .i64 A2.at_, .int .u64 A2.x, .int .u64 A2.y, nx2]) (by simp [results, Try.results36, go_sem, c0, c1, c2, c3, c4, c5]) rfl ?_
  obtain ⟨h8, h9⟩ := HI.out.laidM HS2.out HS0.out rfl (by have := HSZ.out; omega) h7
  exact ⟨_, rfl, h8, h9⟩

set_option maxRecDepth 100000 in
theorem try_any (at_ x y : Int) (w : World) : Calls Try.prog 38 #[.int .i64 at_, .int .u64 x, .int .u64 y] w (Makes layB (tryT at_ x y) w) := by
  obtain ⟨W, hW⟩ : ∃ W, W = (w.alloc (.cells #[.bool false, .bool false, .int .i64 0, .int .i64 0, .int .u64 0, .int .u64 0, .nilFunc] 74)) := ⟨_, rfl⟩
  have hs0 : Same w W := by rw [hW]; exact Sep.alloc _ _ _
  have hsz : W.heap.size = w.heap.size + 1 := by rw [hW]; simp
  have ob0 : W.heap[w.heap.size]? = some (.cells #[.bool false, .bool false, .int .i64 0, .int .i64 0, .int .u64 0, .int .u64 0, .nilFunc] 74) := by rw [hW]; exact heap_at1_0 _ _
  have HW := Lib.hid hW
  have HSZ := Lib.hid hsz
  have OB0 := Lib.hid ob0
  clear hW hsz ob0
  have hin := swapB (w := W) (F := fun _ => False) (p := fun b => .done b) (at_ := at_) (x := x) (y := y) (caps := #[]) enters71 (fun w' _ b => (doneB b w').mono fun _ _ h => h.gives)
  have HIN := Lib.hid hin
  have HS0 := Lib.hid hs0
  clear hin hs0
  go_enter Try.func38, Try.ntmps38
  go_wp2_with fail
  rw [← HW.out]
  refine HIN.out.mono ?_
  rintro e w2 ⟨v2, rfl, hI, hs2⟩
  have hob := Same.obj hs2 OB0.out
  have HI := Lib.hid (hI.imp (G := fun k => W.heap.size ≤ k) fun k _ hk => hk.elim (fun x => x.1.elim) id)
  have HS2 := Lib.hid hs2
  clear hI hs2
  obtain ⟨c0, c1, c2, c3, c4, c5, c6, cf⟩ := cells7 hob
  obtain ⟨o2, r0, A2, nx2, rfl, pr0, pn⟩ := formB HI.out.form
  unfold Plain at *
  clear hob
  go_wp2
  have h7 := sep7 w2 w.heap.size (.bool o2) (r0) (.int .i64 A2.op) (.int .i64 A2.at_) (.int .u64 A2.x) (.int .u64 A2.y) (nx2)
  refine bodyPost_ret (v := .agg #[.bool o2, r0, .int .i64 A2.op, .int .i64 A2.at_, .int .u64 A2.x, .int .u64 A2.y, nx2]) (by simp [results, Try.results38, go_sem, c0, c1, c2, c3, c4, c5, c6]) rfl ?_
  obtain ⟨h8, h9⟩ := HI.out.laidM HS2.out HS0.out rfl (by have := HSZ.out; omega) h7
  exact ⟨_, rfl, h8, h9⟩

set_option maxRecDepth 100000 in
theorem get_any (at_ : Int) (w : World) : Calls Try.prog 40 #[.int .i64 at_] w (Makes layU (getT at_) w) := by
  obtain ⟨W, hW⟩ : ∃ W, W = (w.alloc (.cells #[.bool false, .int .u64 0, .int .i64 0, .int .i64 0, .int .u64 0, .int .u64 0, .nilFunc] 80)) := ⟨_, rfl⟩
  have hs0 : Same w W := by rw [hW]; exact Sep.alloc _ _ _
  have hsz : W.heap.size = w.heap.size + 1 := by rw [hW]; simp
  have ob0 : W.heap[w.heap.size]? = some (.cells #[.bool false, .int .u64 0, .int .i64 0, .int .i64 0, .int .u64 0, .int .u64 0, .nilFunc] 80) := by rw [hW]; exact heap_at1_0 _ _
  have HW := Lib.hid hW
  have HSZ := Lib.hid hsz
  have OB0 := Lib.hid ob0
  clear hW hsz ob0
  have hin := loadU (w := W) (F := fun _ => False) (p := fun z => .done z) (at_ := at_) (caps := #[]) enters74 (fun w' _ z hz => (doneU z hz w').mono fun _ _ h => h.gives)
  have HIN := Lib.hid hin
  have HS0 := Lib.hid hs0
  clear hin hs0
  go_enter Try.func40, Try.ntmps40
  go_wp2_with fail
  rw [← HW.out]
  refine HIN.out.mono ?_
  rintro e w2 ⟨v2, rfl, hI, hs2⟩
  have hob := Same.obj hs2 OB0.out
  have HI := Lib.hid (hI.imp (G := fun k => W.heap.size ≤ k) fun k _ hk => hk.elim (fun x => x.1.elim) id)
  have HS2 := Lib.hid hs2
  clear hI hs2
  obtain ⟨c0, c1, c2, c3, c4, c5, c6, cf⟩ := cells7 hob
  obtain ⟨o2, r0, A2, nx2, rfl, pr0, pn⟩ := formU HI.out.form
  unfold Plain at *
  clear hob
  go_wp2
  have h7 := sep7 w2 w.heap.size (.bool o2) (r0) (.int .i64 A2.op) (.int .i64 A2.at_) (.int .u64 A2.x) (.int .u64 A2.y) (nx2)
  refine bodyPost_ret (v := .agg #[.bool o2, r0, .int .i64 A2.op, .int .i64 A2.at_, .int .u64 A2.x, .int .u64 A2.y, nx2]) (by simp [results, Try.results40, go_sem, c0, c1, c2, c3, c4, c5, c6]) rfl ?_
  obtain ⟨h8, h9⟩ := HI.out.laidM HS2.out HS0.out rfl (by have := HSZ.out; omega) h7
  exact ⟨_, rfl, h8, h9⟩

end Go.Proofs.Ytiljledgoflogaa
