/- slices.Grow and slices.Concat at two slices of words; Join at programs that come to lists of words. -/
import Derived.Test.YtiljledgoflogaaZa
namespace Go.Proofs.Ytiljledgoflogaa
open Go.RowKit
set_option linter.unusedSimpArgs false
set_option linter.unusedVariables false

def Grew (w : World) (e : Ending) (w' : World) : Prop := ∃ v, e = .returned v ∧ w'.ownsRow w.heap.size 23 1 v 0 [] ∧ Same w w'

set_option maxRecDepth 100000 in
theorem grow_nil (n : Nat) (hn : n ≤ 1000) (w : World) : Calls Try.prog 96 #[.slice none 0 0, .int .i64 n] w (Grew w) := by
  by_cases h0 : n = 0
  · subst h0
    have E0 : Hid (Grew w (.returned (.slice none 0 0)) w) := Lib.hid ⟨_, rfl, ⟨rfl, .inl ⟨rfl, rfl⟩⟩, Sep.refl _ _⟩
    go_enter Try.func96, Try.ntmps96
    go_wp2
    go_ret
    exact E0.out
  · obtain ⟨i0, hi, hz0, hz1, hz2⟩ := info_parts info23
    have h1 : ¬ ((n : Int) < 0) := by omega
    have h4 : (n : Int) > 0 := by omega
    have hrz : ∀ ty, (Builtin.append_ #[22, 3] ty #[.slice none 0 0, .int .i64 (n : Int)]).run Try.prog w =
        .ok (.slice (some ⟨w.heap.size, 0, none⟩) (0 + n) (grownCap w (0 + n) 0 23)) (w.drew.alloc (.cells (([] : List Value).toArray ++ Builtin.zeroCells (Value.int .u64 0).cells n ++ Builtin.zeroCells (Value.int .u64 0).cells (grownCap w (0 + n) 0 23 - (0 + n))) 23)) := fun ty =>
      Lib.run_append_grow_zeros w 22 3 ty 23 i0 (.int .u64 0) .i64 .i64 Try.underlying22 Try.underlying3 hi hz0 none 0 0 [] (run_firstCells_none w.drew i0.size 0 0 0) n (by omega) (by rw [hz1]; decide) (by omega) (by omega) (by rw [hz2]; omega)
        (growslice_fits (by omega) (by rw [hz2]; omega))
    have hGn : n ≤ grownCap w (0 + n) 0 23 := by have := grownCap_ge w (0 + n) 0 23; omega
    have hGm := grownCap_le_maxLen w (0 + n) 0 23 (by unfold maxLen; omega)
    obtain ⟨G, hG⟩ : ∃ G, G = grownCap w (0 + n) 0 23 := ⟨_, rfl⟩
    rw [← hG] at hrz hGn hGm
    rw [Nat.zero_add] at hrz
    obtain ⟨C, hC⟩ : ∃ C, C = (([] : List Value).toArray ++ Builtin.zeroCells (Value.int .u64 0).cells n ++ Builtin.zeroCells (Value.int .u64 0).cells (G - n)) := ⟨_, rfl⟩
    rw [← hC] at hrz
    have hCs : C.size = G * 1 := by
      rw [hC]
      simp [Builtin.zeroCells, Value.cells]
      omega
    have E0 : Hid (Grew w (.returned (.slice (some ⟨w.heap.size, 0, none⟩) 0 G)) (w.drew.alloc (.cells C 23))) :=
      Lib.hid ⟨_, rfl, ⟨rfl, .inr ⟨w.heap.size, G, C, rfl, Nat.le_refl _, heap_alloc_new w.drew _, Nat.zero_le _, hGm, hCs, by simp⟩⟩, (Sep.drew _ _).trans (Sep.alloc _ _ _)⟩
    have hG63 : G ≤ 9223372036854775807 := by unfold maxLen at hGm; omega
    clear hCs hC hG hGm hi hz0 hz1 hz2 h0
    go_enter Try.func96, Try.ntmps96
    go_wp2_with (at_builtin; refine Lib.wpList_append_run _ rfl _ _ _ _ rfl _ _ rfl rfl _ _ (hrz _) ?_)
    all_goals (go_ret; exact E0.out)


/-- So far it is laid together. -/
def Laid (w : World) (n : Nat) (xs : List Value) (v : Value) (wr : World) : Prop := wr.ownsRow w.heap.size 23 1 v n xs ∧ Same w wr
theorem Laid.more {w wr w1 : World} {n m : Nat} {xs ys : List Value} {v v1 : Value} (h : Laid w n xs v wr) (o : w1.ownsRow w.heap.size 23 1 v1 (n + m) (xs ++ ys)) (g : wr.grownBy w1 v.ownBlock) : Laid w (n + m) (xs ++ ys) v1 w1 :=
  ⟨o, grow_same h.2 g fun k hk => (h.1.lt k hk).1⟩

theorem Laid.first {w wr w1 : World} {m : Nat} {ys : List Value} {v v1 : Value} (h : Laid w 0 [] v wr) (o : w1.ownsRow w.heap.size 23 1 v1 m ys) (g : wr.grownBy w1 v.ownBlock) : Laid w m ys v1 w1 :=
  ⟨o, grow_same h.2 g fun k hk => (h.1.lt k hk).1⟩

set_option maxRecDepth 100000 in
set_option maxHeartbeats 2000000 in
theorem concat_any {F G : Nat → Prop} {w : World} {va vb : Value} {l k : List Int} {b : Nat} (hb : w.heap[b]? = some (.cells #[va, vb] 22)) (hl : SlcU F w va l) (hk : SlcU G w vb k) (hn : l.length + k.length ≤ 1000) :
    Calls Try.prog 81 #[.slice (some ⟨b, 0, none⟩) 2 2] w fun e w' => ∃ v, e = .returned v ∧ Laid w (l.length + k.length) (wds l ++ wds k) v w' := by
  obtain ⟨i0, hi0, hz0, hz1, hz2⟩ := info_parts info23
  obtain ⟨aa, ac, rfl⟩ := hl.form
  obtain ⟨ba, bc, rfl⟩ := hk.form
  have x0 : w.cell? ⟨b, 0, none⟩ = some (.slice aa l.length ac) := by rw [cell_of_heap hb]; rfl
  have x1 : w.cell? ⟨b, 1, none⟩ = some (.slice ba k.length bc) := by rw [cell_of_heap hb]; rfl
  obtain ⟨n1, hn1⟩ : ∃ n, n = l.length := ⟨_, rfl⟩
  obtain ⟨n2, hn2⟩ : ∃ n, n = k.length := ⟨_, rfl⟩
  rw [← hn1, ← hn2] at hn ⊢
  rw [← hn1] at x0
  rw [← hn2] at x1
  have HL : Hid (SlcU F w (.slice aa n1 ac) l) := by rw [hn1]; exact hl
  have HK : Hid (SlcU G w (.slice ba n2 bc) k) := by rw [hn2]; exact hk
  have HB := Lib.hid hb
  have N1 := Lib.hid hn1
  have N2 := Lib.hid hn2
  obtain ⟨tot, htot⟩ : ∃ t, t = n1 + n2 := ⟨_, rfl⟩
  have b12 : n1 + n2 ≤ 1000 := hn
  have b1 : n1 ≤ 1000 := by omega
  rw [← htot] at hn ⊢
  have HT := Lib.hid htot
  clear hl hk hn1 hn2 hb htot
  go_enter Try.func81, Try.ntmps81
  go_wp2
  go_loop [3, 11] (fun s i => (s = .int .i64 0 ∧ i = .int .i64 0) ∨ (s = .int .i64 n1 ∧ i = .int .i64 1) ∨ (s = .int .i64 tot ∧ i = .int .i64 2)) (fun _ i => 2 - (intOf i).toNat)
  case atStart => exact .inl ⟨rfl, rfl⟩
  case round =>
    rcases hrel with ⟨rfl, rfl⟩ | ⟨rfl, rfl⟩ | ⟨rfl, rfl⟩
    · go_wp2
      go_round
      case rel => exact .inr (.inl ⟨rfl, rfl⟩)
      case measure => simp [intOf]
    · have e12 : (tot : Int) = (n1 : Int) + (n2 : Int) := by have := HT.out; omega
      have E12 := Lib.hid e12
      clear e12
      go_wp2
      go_round
      case rel => exact .inr (.inr ⟨by rw [E12.out], rfl⟩)
      case measure => simp [intOf]
    · go_wp2_with fail
      refine (grow_nil tot hn w).mono ?_
      rintro e w1 ⟨v1, rfl, own1, hs1⟩
      have X0 := Lib.hid x0
      have X1 := Lib.hid x1
      have HL1 : Hid (Laid w 0 [] v1 w1) := Lib.hid ⟨own1, hs1⟩
      clear own1 hs1 x0 x1
      go_wp2_with fail
      go_loopw [6, 27] (fun s i wr => (i = .int .i64 0 ∧ Laid w 0 [] s wr) ∨ (i = .int .i64 1 ∧ Laid w n1 (wds l) s wr) ∨ (i = .int .i64 2 ∧ Laid w tot (wds l ++ wds k) s wr)) (fun _ i _ => 2 - (intOf i).toNat)
      case atStart => exact .inl ⟨rfl, HL1.out⟩
      case round =>
        rcases hrel with ⟨rfl, hla⟩ | ⟨rfl, hla⟩ | ⟨rfl, hla⟩
        · have y0 := Same.cell hla.2 X0.out
          have hge := hla.2.size
          have hsl := SlcU.keep HL.out (Same.keeps hla.2)
          obtain ⟨hcl, ⟨e0, h0⟩ | ⟨bb, off, cap, e0, hBb, hlt, hlc, hm, hc⟩⟩ := hsl
          · obtain ⟨rfl, rfl, rfl⟩ : aa = none ∧ n1 = 0 ∧ ac = 0 := by simpa using e0
            have hw0 : wds l = [] := List.eq_nil_of_length_eq_zero (by rw [wds_len]; exact h0)
            have HLA := Lib.hid hla
            have own := hla.1
            have HW0 := Lib.hid hw0
            clear hla hcl h0 hw0 e0
            go_wp2_with (first | (at_builtin; go_loud (refine wpList_append_own_none rfl (.tmp 31) (.tmp 32) 22 rfl w.heap.size 23 i0 1 Try.underlying22 hi0 _ 0 [] rfl own rfl ?_)))
            go_roundw
            case rel => exact .inr (.inl ⟨rfl, by rw [HW0.out]; exact HLA.out⟩)
            case measure => simp [intOf]
          · obtain ⟨rfl, hnn, rfl⟩ : aa = some ⟨bb, off, none⟩ ∧ n1 = l.length ∧ ac = cap := by simpa using e0
            have hcl' : (wds l).length = n1 * 1 := by rw [wds_len, hnn]; omega
            have hnews := Slc.news (w := wr) (w' := wr) (fun _ _ => rfl) hlt hc
            have HLA := Lib.hid hla
            have own := hla.1
            have hlc' : n1 ≤ ac := by omega
            have hn1' : n1 ≤ 1000 := by have := HT.out; omega
            clear hla hcl hc e0 hlc hnn hlt
            go_wp2_with (first | (at_builtin; go_loud (refine wpList_append_own _ rfl (.tmp 31) (.tmp 32) 22 rfl w.heap.size 23 i0 (.int .u64 0) 1 8 Try.underlying22 hi0 hz0 hz1 hz2 rfl (by decide) _ 0 [] rfl own ⟨bb, off, none⟩ n1 ac (wds l) rfl hcl' hnews (wds_one l) (by unfold maxLen; omega) (by omega) hge ?_)))
            intro v2 w2 o2 g2 _
            have HN := Lib.hid (HLA.out.first o2 g2)
            clear o2 g2 y0 own hnews
            go_wp2
            go_roundw
            case rel => exact .inr (.inl ⟨rfl, HN.out⟩)
            case measure => simp [intOf]
        · have y1 := Same.cell hla.2 X1.out
          have hge := hla.2.size
          have hsl := SlcU.keep HK.out (Same.keeps hla.2)
          obtain ⟨hcl, ⟨e0, h0⟩ | ⟨bb, off, cap, e0, hBb, hlt, hlc, hm, hc⟩⟩ := hsl
          · obtain ⟨rfl, rfl, rfl⟩ : ba = none ∧ n2 = 0 ∧ bc = 0 := by simpa using e0
            have hw0 : wds k = [] := List.eq_nil_of_length_eq_zero (by rw [wds_len]; exact h0)
            have HLA := Lib.hid hla
            have own := hla.1
            have HW0 := Lib.hid hw0
            clear hla hcl h0 hw0 e0
            go_wp2_with (first | (at_builtin; go_loud (refine wpList_append_own_none rfl (.tmp 31) (.tmp 32) 22 rfl w.heap.size 23 i0 1 Try.underlying22 hi0 _ n1 (wds l) rfl own rfl ?_)))
            go_roundw
            case rel => exact .inr (.inr ⟨rfl, by rw [HT.out, HW0.out, List.append_nil, Nat.add_zero]; exact HLA.out⟩)
            case measure => simp [intOf]
          · obtain ⟨rfl, hnn, rfl⟩ : ba = some ⟨bb, off, none⟩ ∧ n2 = k.length ∧ bc = cap := by simpa using e0
            have hcl' : (wds k).length = n2 * 1 := by rw [wds_len, hnn]; omega
            have hnews := Slc.news (w := wr) (w' := wr) (fun _ _ => rfl) hlt hc
            have HLA := Lib.hid hla
            have own := hla.1
            have hlc' : n2 ≤ bc := by omega
            have hn12 : n1 + n2 ≤ 1000 := by have := HT.out; omega
            clear hla hcl hc e0 hlc hnn hlt
            go_wp2_with (first | (at_builtin; go_loud (refine wpList_append_own _ rfl (.tmp 31) (.tmp 32) 22 rfl w.heap.size 23 i0 (.int .u64 0) 1 8 Try.underlying22 hi0 hz0 hz1 hz2 rfl (by decide) _ n1 (wds l) rfl own ⟨bb, off, none⟩ n2 bc (wds k) rfl hcl' hnews (wds_one k) (by unfold maxLen; omega) (by omega) hge ?_)))
            intro v2 w2 o2 g2 _
            have HN := Lib.hid (HLA.out.more o2 g2)
            clear o2 g2 y1 own hnews
            go_wp2
            go_roundw
            case rel => exact .inr (.inr ⟨rfl, by rw [HT.out]; exact HN.out⟩)
            case measure => simp [intOf]
        · have HLA := Lib.hid hla
          clear hla
          go_wp2
          go_ret
          exact ⟨_, rfl, HLA.out⟩


/-- What Join's inner function does: it lays the two lists together. -/
theorem goes79 {w : World} {G : Nat → Prop} {ab n : Nat} {av : Value} {a : List Int} (hab : w.heap[ab]? = some (.cells #[av] 22)) (hG : G ab) (ha : SlcU G w av a) (hn : a.length + n ≤ 1000) :
    Goes (fun r => r.length ≤ n) (fun r => .done (a ++ r)) w G 79 #[.pointer (some ⟨ab, 0, none⟩)] := by
  intro w' H rv r hk hd hr hrn
  show Calls Try.prog 79 #[rv, .pointer (some ⟨ab, 0, none⟩)] w' _
  obtain ⟨ra, rc, rfl⟩ := hr.form
  obtain ⟨aa, ac, rfl⟩ := ha.form
  have hab' := hk.obj hab hG
  have ha' := ha.keep hk
  obtain ⟨n1, hn1⟩ : ∃ n, n = a.length := ⟨_, rfl⟩
  obtain ⟨n2, hn2⟩ : ∃ n, n = r.length := ⟨_, rfl⟩
  obtain ⟨W, hW⟩ : ∃ W, W = (w'.alloc (.cells #[.bool false, .slice none 0 0, .int .i64 0, .int .i64 0, .int .u64 0, .int .u64 0, .nilFunc] 87)).alloc (.cells #[.slice aa n1 ac, .slice ra n2 rc] 22) := ⟨_, rfl⟩
  have hs0 : Same w' W := by rw [hW]; exact (Sep.alloc _ _ _).thenAlloc _
  have hsz : W.heap.size = w'.heap.size + 2 := by rw [hW]; simp
  have ob0 : W.heap[w'.heap.size]? = some (.cells #[.bool false, .slice none 0 0, .int .i64 0, .int .i64 0, .int .u64 0, .int .u64 0, .nilFunc] 87) := by rw [hW]; exact heap_at2_0 _ _ _
  have ob1 : W.heap[w'.heap.size + 1]? = some (.cells #[.slice aa n1 ac, .slice ra n2 rc] 22) := by rw [hW]; exact heap_at2_1 _ _ _
  have hc := concat_any (F := G) (G := H) ob1 (by rw [hn1]; exact ha'.same hs0) (by rw [hn2]; exact hr.same hs0) (by omega)
  rw [← hn1, ← hn2] at hc
  have hbx := (Sep.alloc (fun _ => False) w' (.cells #[.bool false, .slice none 0 0, .int .i64 0, .int .i64 0, .int .u64 0, .int .u64 0, .nilFunc] 87)).cell (cell_of_one hab') (fun x => x)
  rw [← hn1] at hbx
  rw [← hn2]
  have HW := Lib.hid hW
  have HSZ := Lib.hid hsz
  have OB0 := Lib.hid ob0
  have HC := Lib.hid hc
  have HS0 := Lib.hid hs0
  have N1 := Lib.hid hn1
  have N2 := Lib.hid hn2
  clear hW hsz ob0 ob1 hc hs0 hn1 hn2 ha' ha hr hab' hd
  go_enter Try.func79, Try.ntmps79
  go_wp2_with fail
  rw [← HW.out]
  refine HC.out.mono ?_
  rintro e w2 ⟨v2, rfl, hla⟩
  have hsl : Slc 1 (fun b => W.heap.size ≤ b) w2 v2 (n1 + n2) (wds a ++ wds r) := Slc.owned (fun b hb => hb) hla.1
  obtain ⟨ca, cc, rfl⟩ := hsl.form
  obtain ⟨nn, hnn⟩ : ∃ n, n = n1 + n2 := ⟨_, rfl⟩
  rw [← hnn] at hsl ⊢
  have HSL : Hid (SlcU (fun b => W.heap.size ≤ b) w2 (.slice ca nn cc) (a ++ r)) := by
    show Slc 1 _ w2 _ (a ++ r).length (wds (a ++ r))
    have e1 : (a ++ r).length = nn := by rw [List.length_append, hnn, N1.out, N2.out]
    have e2 : wds (a ++ r) = wds a ++ wds r := by simp [wds]
    rw [e1, e2]
    exact hsl
  have NN : Hid (nn = (a ++ r).length) := by
    show nn = (a ++ r).length
    rw [List.length_append, hnn, N1.out, N2.out]
  have hs2 : Same W w2 := hla.2
  have H2 := Lib.hid hs2
  have OBB := Lib.hid (Same.obj hs2 OB0.out)
  clear hla hsl hnn hs2
  go_wp2_with fail
  refine (done_u ca nn cc w2).mono ?_
  rintro e w3 ⟨rfl, hs3⟩
  obtain ⟨c0, c1, c2, c3, c4, c5, c6, cf⟩ := cells7 (Same.obj hs3 OBB.out)
  have H3 := Lib.hid hs3
  clear hs3
  go_wp2
  have h7 := sep7 w3 w'.heap.size (.bool true) (.slice ca nn cc) (.int .i64 0) (.int .i64 0) (.int .u64 0) (.int .u64 0) .nilFunc
  refine bodyPost_ret (v := .agg #[.bool true, .slice ca nn cc, .int .i64 0, .int .i64 0, .int .u64 0, .int .u64 0, .nilFunc]) (by simp [results, Try.results79, go_sem, c0, c1, c2, c3, c4, c5, c6]) rfl ?_
  have h7' : Sep (fun k => k = w'.heap.size) w2 _ := Sep.trans (Same.sep H3.out _) h7
  have hlt := HSZ.out
  refine ⟨_, rfl, ⟨[_], rfl, _, rfl, ?_⟩, Same.sep (same_then (HS0.out.trans H2.out) (Nat.le_refl _) h7') _⟩
  exact Slc.imp (SlcU.keep HSL.out (Sep.keeps h7' fun k _ hk e => by omega)) fun b hb _ => .inr (by omega)


/-- What Join's outer function does: the second program, and then the two lists together. -/
theorem goes78 {w : World} {G Fq : Nat → Prop} {qb n m : Nat} {c : Array Value} {q : PT (List Int)} (hqb : w.heap[qb]? = some (.cells c 87)) (hG : G qb) (hq : Is layS q w Fq (.agg c)) (hqa : q.All fun r => r.length ≤ m) (hFG : ∀ b, b < w.heap.size → Fq b → G b) (hn : n + m ≤ 1000) :
    Goes (fun a => a.length ≤ n) (fun a => q.bind fun r => .done (a ++ r)) w G 78 #[.pointer (some ⟨qb, 0, none⟩)] := by
  intro w' H av a hk hd ha hal
  show Calls Try.prog 78 #[av, .pointer (some ⟨qb, 0, none⟩)] w' _
  obtain ⟨aa, ac, rfl⟩ := ha.form
  have hqb' := hk.obj hqb hG
  have hq' := (hq.keep (hk.imp hFG))
  obtain ⟨oq, rq, Aq, nq, hc, pq, pn⟩ := formS hq.form
  obtain rfl : c = _ := (Value.agg.injEq _ _).mp hc
  clear hc
  obtain ⟨n1, hn1⟩ : ∃ n, n = a.length := ⟨_, rfl⟩
  obtain ⟨W, hW⟩ : ∃ W, W = ((w'.alloc (.cells #[.slice aa n1 ac] 22)).alloc (.cells #[.bool false, .slice none 0 0, .int .i64 0, .int .i64 0, .int .u64 0, .int .u64 0, .nilFunc] 87)) := ⟨_, rfl⟩
  have hs0 : Same w' W := by rw [hW]; exact (Sep.alloc _ _ _).thenAlloc _
  have hsz : W.heap.size = w'.heap.size + 2 := by rw [hW]; simp
  have ob0 : W.heap[w'.heap.size]? = some (.cells #[.slice aa n1 ac] 22) := by rw [hW]; exact heap_at2_0 _ _ _
  have ob1 : W.heap[w'.heap.size + 1]? = some (.cells #[.bool false, .slice none 0 0, .int .i64 0, .int .i64 0, .int .u64 0, .int .u64 0, .nilFunc] 87) := by rw [hW]; exact heap_at2_1 _ _ _
  have HW := Lib.hid hW
  have HSZ := Lib.hid hsz
  have OB0 := Lib.hid ob0
  have OB1 := Lib.hid ob1
  clear hW hsz ob0 ob1
  have hth := thenS (K := 79) (caps := #[.pointer (some ⟨w'.heap.size, 0, none⟩)]) (ok := fun r => r.length ≤ m) (g := fun r => .done (a ++ r)) (F := Part Fq w) (G := fun b => H b ∧ b < w'.heap.size ∨ b = w'.heap.size) (w := W) hqa enters79 (hq'.same hs0)
    (fun b _ h1 h2 => by
      rcases h2 with h2 | h2
      · exact hd b h2.2 h2.1 ⟨hFG b h1.2 h1.1, h1.2⟩
      · have := h1.2; have := hk.1; omega)
    (goes79 (n := m) OB0.out (.inr rfl) ((Slc.imp (by rw [hn1]; exact ha) (G := fun b => H b ∧ b < w'.heap.size ∨ b = w'.heap.size) fun b hb hlt => .inl ⟨hb, hlt⟩).same hs0) (by omega))
  have bx := cells7 (Same.obj hs0 hqb')
  rw [HW.out] at bx
  obtain ⟨y0, y1, y2, y3, y4, y5, y6, yf⟩ := bx
  rw [← hn1]
  have HT := Lib.hid hth
  have HS0 := Lib.hid hs0
  have HKL := Lib.hid hk.1
  have HFG := Lib.hid hFG
  clear hs0 hth hn1 ha hq hq' hqb hqb' hd hFG hqa hk
  unfold Plain at pq pn
  go_enter Try.func78, Try.ntmps78
  go_wp2_with fail
  rw [← HW.out]
  refine HT.out.mono ?_
  rintro e w2 ⟨v2, rfl, hI, hs2⟩
  have hob := Sep.obj hs2 OB1.out (fun h => by
    have := HKL.out
    rcases h.1 with h | h | h
    · have := h.2; omega
    · have := h.2; omega
    · omega)
  have HI := Lib.hid hI
  have HS2 := Lib.hid hs2
  clear hI hs2 yf y0 y1 y2 y3 y4 y5 y6
  obtain ⟨c0, c1, c2, c3, c4, c5, c6, cf⟩ := cells7 hob
  obtain ⟨o2, r0, A2, nx2, rfl, pr0, pn⟩ := formS HI.out.form
  unfold Plain at *
  clear hob
  go_wp2
  have h7 := sep7 w2 (w'.heap.size + 1) (.bool o2) (r0) (.int .i64 A2.op) (.int .i64 A2.at_) (.int .u64 A2.x) (.int .u64 A2.y) (nx2)
  refine bodyPost_ret (v := .agg #[.bool o2, r0, .int .i64 A2.op, .int .i64 A2.at_, .int .u64 A2.x, .int .u64 A2.y, nx2]) (by simp [results, Try.results78, go_sem, c0, c1, c2, c3, c4, c5, c6]) rfl ?_
  have hlt := HSZ.out
  have hkl := HKL.out
  refine ⟨_, rfl, (HI.out.keep (Sep.keeps h7 fun k _ hk e => ?_)).imp fun k _ hk => ?_, sep_then (sep_chain (Same.sep HS0.out _) HS2.out (fun b hb h => ?_)) (Nat.le_add_right _ 1) h7⟩
  · subst e
    rcases hk with ⟨h | h | h, _⟩ | h
    · have := h.2; omega
    · have := h.2; omega
    · omega
    · omega
  · rcases hk.1 with ⟨h | h | h, _⟩ | h
    · exact .inl ⟨.inr ⟨HFG.out k h.2 h.1, h.2⟩, Nat.lt_of_lt_of_le h.2 hkl⟩
    · exact .inl ⟨.inl h.1, h.2⟩
    · exact .inr (by omega)
    · exact .inr (by omega)
  · rcases h.1 with h | h | h
    · exact ⟨.inr ⟨HFG.out b h.2 h.1, h.2⟩, hb⟩
    · exact ⟨.inl h.1, hb⟩
    · omega


set_option maxRecDepth 100000 in
theorem join_any {w : World} {Fp Fq : Nat → Prop} {n m : Nat} {v u : Value} {p q : PT (List Int)} (hp : Is layS p w Fp v) (hq : Is layS q w Fq u) (hd : ∀ b, b < w.heap.size → Fp b → ¬ Fq b) (hpa : p.All fun r => r.length ≤ n) (hqa : q.All fun r => r.length ≤ m) (hn : n + m ≤ 1000) :
    Calls Try.prog 49 #[v, u] w (GivesX (p.bind fun a => q.bind fun r => .done (a ++ r)) (fun b => Fp b ∨ Fq b) w) := by
  obtain ⟨o1, r1, A1, n1, rfl, p1, pn1⟩ := formS hp.form
  obtain ⟨o3, r3, A3, n3, rfl, p3, pn3⟩ := formS hq.form
  obtain ⟨W, hW⟩ : ∃ W, W = (((w.alloc (.cells #[.bool o1, r1, .int .i64 A1.op, .int .i64 A1.at_, .int .u64 A1.x, .int .u64 A1.y, n1] 87)).alloc (.cells #[.bool o3, r3, .int .i64 A3.op, .int .i64 A3.at_, .int .u64 A3.x, .int .u64 A3.y, n3] 87)).alloc (.cells #[.bool false, .slice none 0 0, .int .i64 0, .int .i64 0, .int .u64 0, .int .u64 0, .nilFunc] 87)) := ⟨_, rfl⟩
  have hs0 : Same w W := by rw [hW]; exact ((Sep.alloc _ _ _).thenAlloc _).thenAlloc _
  have hsz : W.heap.size = w.heap.size + 3 := by rw [hW]; simp
  have ob0 : W.heap[w.heap.size]? = some (.cells #[.bool o1, r1, .int .i64 A1.op, .int .i64 A1.at_, .int .u64 A1.x, .int .u64 A1.y, n1] 87) := by rw [hW]; exact heap_at3_0 _ _ _ _
  have ob1 : W.heap[w.heap.size + 1]? = some (.cells #[.bool o3, r3, .int .i64 A3.op, .int .i64 A3.at_, .int .u64 A3.x, .int .u64 A3.y, n3] 87) := by rw [hW]; exact heap_at3_1 _ _ _ _
  have ob2 : W.heap[w.heap.size + 2]? = some (.cells #[.bool false, .slice none 0 0, .int .i64 0, .int .i64 0, .int .u64 0, .int .u64 0, .nilFunc] 87) := by rw [hW]; exact heap_at3_2 _ _ _ _
  have HW := Lib.hid hW
  have HSZ := Lib.hid hsz
  have OB0 := Lib.hid ob0
  have OB1 := Lib.hid ob1
  have OB2 := Lib.hid ob2
  clear hW hsz ob0 ob1 ob2
  have hth := thenS (K := 78) (caps := #[.pointer (some ⟨w.heap.size + 1, 0, none⟩)]) (ok := fun r => r.length ≤ n) (g := fun a => q.bind fun r => .done (a ++ r)) (F := Part Fp w) (G := fun b => Part Fq w b ∨ b = w.heap.size + 1) (w := W) hpa enters78 ((hp.keep (Same.keeps hs0)))
    (fun b _ h1 h2 => by
      rcases h2 with h2 | h2
      · exact hd b h1.2 h1.1 h2.1
      · have := h1.2; omega)
    (goes78 (n := n) (m := m) (Fq := Part Fq w) OB1.out (.inr rfl) (hq.keep (Same.keeps hs0)) hqa (fun b _ h => .inl h) hn)
  have HT := Lib.hid hth
  have HS0 := Lib.hid hs0
  clear hs0 hth hp hq hd hpa hqa
  unfold Plain at p1 pn1 p3 pn3
  go_enter Try.func49, Try.ntmps49
  go_wp2_with fail
  rw [← HW.out]
  refine HT.out.mono ?_
  rintro e w2 ⟨v2, rfl, hI, hs2⟩
  have hob := Sep.obj hs2 OB2.out (fun h => by
    rcases h.1 with h | h | h
    · have := h.2; omega
    · have := h.2; omega
    · omega)
  have HI := Lib.hid hI
  have HS2 := Lib.hid hs2
  clear hI hs2
  obtain ⟨c0, c1, c2, c3, c4, c5, c6, cf⟩ := cells7 hob
  obtain ⟨o2, r0, A2, nx2, rfl, pr0, pn⟩ := formS HI.out.form
  unfold Plain at *
  clear hob
  go_wp2
  have h7 := sep7 w2 (w.heap.size + 2) (.bool o2) (r0) (.int .i64 A2.op) (.int .i64 A2.at_) (.int .u64 A2.x) (.int .u64 A2.y) (nx2)
  refine bodyPost_ret (v := .agg #[.bool o2, r0, .int .i64 A2.op, .int .i64 A2.at_, .int .u64 A2.x, .int .u64 A2.y, nx2]) (by simp [results, Try.results49, go_sem, c0, c1, c2, c3, c4, c5, c6]) rfl ?_
  have hlt := HSZ.out
  refine ⟨_, rfl, (HI.out.keep (Sep.keeps h7 fun k _ hk e => ?_)).imp fun k _ hk => ?_, sep_then (sep_chain (Same.sep HS0.out _) HS2.out (fun b hb h => ?_)) (Nat.le_add_right _ 2) h7⟩
  · subst e
    rcases hk with ⟨h | h | h, _⟩ | h
    · have := h.2; omega
    · have := h.2; omega
    · omega
    · omega
  · rcases hk.1 with ⟨h | h | h, _⟩ | h
    · exact .inl ⟨.inl h.1, h.2⟩
    · exact .inl ⟨.inr h.1, h.2⟩
    · exact .inr (by omega)
    · exact .inr (by omega)
  · rcases h.1 with h | h | h
    · exact ⟨.inl h.1, h.2⟩
    · exact ⟨.inr h.1, h.2⟩
    · omega

end Go.Proofs.Ytiljledgoflogaa
