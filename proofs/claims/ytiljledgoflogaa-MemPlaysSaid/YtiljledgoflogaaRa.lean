/- The reference's memory as a value: its readers Good, Cap, Peek. -/
import Derived.Test.YtiljledgoflogaaS
import Derived.Test.YtiljledgoflogaaU
import Derived.BigQuiet
namespace Go.Proofs.Ytiljledgoflogaa
open Go.RowKit
set_option linter.unusedSimpArgs false
set_option linter.unusedVariables false

/-- The cells of the words, region by region. -/
def RowsOf (F : Nat → Prop) (w : World) (cs : List Value) (L : List Reg) : Prop := ∀ i, i < L.length → ∃ u, cs[i]? = some u ∧ SlcU F w u (L.getD i default).ws
def eps (L : List Reg) : List Value := L.map fun r => .int .u64 r.ep
theorem eps_len (L : List Reg) : (eps L).length = L.length := by simp [eps]
/-- v is the reference's memory of the regions L; so many accesses were done. -/
def RM (F : Nat → Prop) (w : World) (v : Value) (L : List Reg) (cnt : Nat) : Prop :=
  ∃ W E cs, v = .agg #[W, E, .int .i64 cnt] ∧ Slc 1 F w W L.length cs ∧ Slc 1 F w E L.length (eps L) ∧ RowsOf F w cs L
section
variable {F G : Nat → Prop} {w w' : World} {v : Value} {L : List Reg} {cnt : Nat} {cs : List Value}
theorem RowsOf.stay {S : Nat → Prop} (h : RowsOf F w cs L) (hs : Sep S w w') (hn : ∀ b, F b → b < w.heap.size → ¬ S b) : RowsOf F w' cs L := fun i hi => by
  obtain ⟨u, hu, hs'⟩ := h i hi
  exact ⟨u, hu, Slc.stay hs' hs hn⟩
theorem RM.stay {S : Nat → Prop} (h : RM F w v L cnt) (hs : Sep S w w') (hn : ∀ b, F b → b < w.heap.size → ¬ S b) : RM F w' v L cnt := by
  obtain ⟨W, E, cs, rfl, h1, h2, h3⟩ := h
  exact ⟨W, E, cs, rfl, h1.stay hs hn, h2.stay hs hn, h3.stay hs hn⟩
theorem RM.same (h : RM F w v L cnt) (hs : Same w w') : RM F w' v L cnt := h.stay hs fun _ _ _ x => x
theorem RM.imp (h : RM F w v L cnt) (hg : ∀ b, F b → b < w.heap.size → G b) : RM G w v L cnt := by
  obtain ⟨W, E, cs, rfl, h1, h2, h3⟩ := h
  refine ⟨W, E, cs, rfl, h1.imp hg, h2.imp hg, fun i hi => ?_⟩
  obtain ⟨u, hu, hs'⟩ := h3 i hi
  exact ⟨u, hu, Slc.imp hs' hg⟩
theorem RM.form (h : RM F w v L cnt) : ∃ wa wc ea ec, v = .agg #[.slice wa L.length wc, .slice ea L.length ec, .int .i64 cnt] := by
  obtain ⟨W, E, cs, rfl, h1, h2, _⟩ := h
  obtain ⟨wa, wc, rfl⟩ := h1.form
  obtain ⟨ea, ec, rfl⟩ := h2.form
  exact ⟨wa, wc, ea, ec, rfl⟩
/-- What is known of region i. -/
theorem RM.at {wa ea : Option Addr} {wc ec n : Nat} {x : Value} (h : RM F w (.agg #[.slice wa n wc, .slice ea n ec, x]) L cnt) {i : Nat} (hi : i < L.length) :
    ∃ wb wo eb eo ra rc, wa = some ⟨wb, wo, none⟩ ∧ ea = some ⟨eb, eo, none⟩ ∧ n = L.length ∧ n ≤ wc ∧ n ≤ ec ∧ w.cell? ⟨wb, wo + i, none⟩ = some (.slice ra (L.getD i default).ws.length rc) ∧ w.cell? ⟨eb, eo + i, none⟩ = some (.int .u64 (L.getD i default).ep) ∧
      SlcU F w (.slice ra (L.getD i default).ws.length rc) (L.getD i default).ws := by
  obtain ⟨W, E, cs, hv, h1, h2, h3⟩ := h
  simp only [Value.agg.injEq] at hv
  obtain ⟨rfl, rfl, rfl⟩ : Value.slice wa n wc = W ∧ Value.slice ea n ec = E ∧ x = .int .i64 cnt := by simpa using hv
  obtain ⟨hl1, ⟨e, h0⟩ | ⟨wb, wo, cap, e, hB, hlt, hlc, hm, hc⟩⟩ := h1
  · omega
  obtain ⟨rfl, rfl, rfl⟩ : wa = some ⟨wb, wo, none⟩ ∧ n = L.length ∧ wc = cap := by simpa using e
  obtain ⟨hl2, ⟨e2, h02⟩ | ⟨eb, eo, cap2, e2, hB2, hlt2, hlc2, hm2, hc2⟩⟩ := h2
  · omega
  obtain ⟨rfl, rfl⟩ : ea = some ⟨eb, eo, none⟩ ∧ ec = cap2 := by simpa using e2
  obtain ⟨u, hu, hs⟩ := h3 i hi
  obtain ⟨ra, rc, rfl⟩ := Slc.form hs
  exact ⟨wb, wo, eb, eo, ra, rc, rfl, rfl, rfl, hlc, hlc2, hc i _ hu, hc2 i _ (by simp [eps, List.getD, hi]), hs⟩
end

set_option maxRecDepth 100000 in
theorem rgood {F : Nat → Prop} {w : World} {v : Value} {L : List Reg} {cnt : Nat} (h : RM F w v L cnt) (i e : Int) : Calls Try.prog 31 #[v, .agg #[.int .i64 i, .int .u64 e]] w fun en w' => en = .returned (.bool (goodB L i e)) ∧ Same w w' := by
  obtain ⟨wa, wc, ea, ec, rfl⟩ := h.form
  by_cases hi : i < 0 ∨ (L.length : Int) ≤ i
  · rw [show goodB L i e = false from decide_eq_false (by omega)]
    have hd : (decide (0 ≤ i) = true ∧ decide (i < (L.length : Int)) = false) ∨ decide (0 ≤ i) = false := by
      by_cases h0 : 0 ≤ i
      · exact .inl ⟨decide_eq_true h0, decide_eq_false (by omega)⟩
      · exact .inr (decide_eq_false h0)
    obtain ⟨n, hn⟩ : ∃ n, n = L.length := ⟨_, rfl⟩
    rw [← hn] at hd ⊢
    clear hi h hn
    rcases hd with ⟨h1, h2⟩ | h1
    · go_enter Try.func31, Try.ntmps31
      go_wp2
      go_quiet (fail)
      go_wp2
      go_ret
      exact ⟨rfl, ((Sep.alloc _ _ _).thenAlloc _).trans (Sep.drewN _ _ _)⟩
    · go_enter Try.func31, Try.ntmps31
      go_wp2
      go_quiet (fail)
      go_wp2
      go_ret
      exact ⟨rfl, ((Sep.alloc _ _ _).thenAlloc _).trans (Sep.drewN _ _ _)⟩
  · obtain ⟨k, rfl⟩ : ∃ k : Nat, i = k := ⟨i.toNat, by omega⟩
    have hk : k < L.length := by omega
    clear hi
    obtain ⟨wb, wo, eb, eo, ra, rc, rfl, rfl, _, hlw, hle, hcw, hce, _⟩ := h.at hk
    obtain ⟨X, hX⟩ : ∃ X, X = L.getD k default := ⟨_, rfl⟩
    have hB : goodB L k e = decide ((X.ep : Int) = e) := by
      unfold goodB
      rw [hX]
      simp [hk]
    rw [hB]
    rw [← hX] at hce
    obtain ⟨n, hn⟩ : ∃ n, n = L.length := ⟨_, rfl⟩
    rw [← hn] at hk hle hlw ⊢
    have h1 : decide ((0 : Int) ≤ (k : Int)) = true := decide_eq_true (Int.natCast_nonneg _)
    have h2 : decide (k < n) = true := decide_eq_true hk
    have h3 : (0 : Int) ≤ (k : Int) := Int.natCast_nonneg _
    have h4 : (k : Int) < (n : Int) := by omega
    have hce' := fun o o2 => ((Sep.alloc (fun _ => False) w o).thenAlloc o2).cell hce (fun x => x)
    clear hB h hn hcw hX hce
    go_enter Try.func31, Try.ntmps31
    go_wp2
    go_quiet (fail)
    go_wp2
    go_ret
    exact ⟨rfl, ((Sep.alloc _ _ _).thenAlloc _).trans (Sep.drewN _ _ _)⟩

set_option maxRecDepth 100000 in
theorem rcap {F : Nat → Prop} {w : World} {v : Value} {L : List Reg} {cnt : Nat} (h : RM F w v L cnt) (i : Int) : Calls Try.prog 61 #[v, .int .i64 i] w fun en w' => en = .returned (capOf L i) ∧ Same w w' := by
  obtain ⟨wa, wc, ea, ec, rfl⟩ := h.form
  by_cases hi : i < 0 ∨ (L.length : Int) ≤ i
  · rw [capOf_no hi]
    obtain ⟨n, hn⟩ : ∃ n, n = L.length := ⟨_, rfl⟩
    rw [← hn] at hi ⊢
    clear h hn
    have hz : (#[] : Array Value).zipIdx = #[] := rfl
    rcases hi with hi | hi
    · go_enter Try.func61, Try.ntmps61
      go_wp2
      exact bodyPost_ret (v := .agg #[.int .i64 0, .int .u64 0]) (by simp [results, Try.results61, go_sem]) rfl ⟨rfl, (Sep.alloc _ _ _).thenAlloc _⟩
    · have h0 : ¬ i < 0 := by omega
      go_enter Try.func61, Try.ntmps61
      go_wp2
      exact bodyPost_ret (v := .agg #[.int .i64 0, .int .u64 0]) (by simp [results, Try.results61, go_sem]) rfl ⟨rfl, (Sep.alloc _ _ _).thenAlloc _⟩
  · obtain ⟨k, rfl⟩ : ∃ k : Nat, i = k := ⟨i.toNat, by omega⟩
    have hk : k < L.length := by omega
    clear hi
    obtain ⟨wb, wo, eb, eo, ra, rc, rfl, rfl, _, hlw, hle, hcw, hce, _⟩ := h.at hk
    rw [capOf_at hk]
    obtain ⟨X, hX⟩ : ∃ X, X = L.getD k default := ⟨_, rfl⟩
    rw [← hX] at hce ⊢
    obtain ⟨n, hn⟩ : ∃ n, n = L.length := ⟨_, rfl⟩
    rw [← hn] at hk hle hlw ⊢
    have h3 : (0 : Int) ≤ (k : Int) := Int.natCast_nonneg _
    have h4 : (k : Int) < (n : Int) := by omega
    have hce' := fun o o2 => ((Sep.alloc (fun _ => False) w o).thenAlloc o2).cell hce (fun x => x)
    clear h hn hcw hX hce
    go_enter Try.func61, Try.ntmps61
    go_wp2
    exact bodyPost_ret (v := .agg #[.int .i64 k, .int .u64 X.ep]) (by simp [results, Try.results61, go_sem]) rfl ⟨rfl, (Sep.alloc _ _ _).thenAlloc _⟩

set_option maxRecDepth 100000 in
theorem rpeek {F : Nat → Prop} {w : World} {v : Value} {L : List Reg} {cnt : Nat} (h : RM F w v L cnt) (i j : Int) : Calls Try.prog 48 #[v, .int .i64 i, .int .i64 j] w fun en w' => en = .returned (.int .u64 (peekOf L i j)) ∧ Same w w' := by
  obtain ⟨wa, wc, ea, ec, rfl⟩ := h.form
  by_cases hi : i < 0 ∨ (L.length : Int) ≤ i
  · rw [show peekOf L i j = 0 from if_neg (by omega)]
    obtain ⟨n, hn⟩ : ∃ n, n = L.length := ⟨_, rfl⟩
    rw [← hn] at hi ⊢
    clear h hn
    rcases hi with hi | hi
    · go_enter Try.func48, Try.ntmps48
      go_wp2
      go_ret
      exact ⟨rfl, Sep.alloc _ _ _⟩
    · have h0 : ¬ i < 0 := by omega
      go_enter Try.func48, Try.ntmps48
      go_wp2
      go_ret
      exact ⟨rfl, Sep.alloc _ _ _⟩
  · obtain ⟨k, rfl⟩ : ∃ k : Nat, i = k := ⟨i.toNat, by omega⟩
    have hk : k < L.length := by omega
    clear hi
    obtain ⟨wb, wo, eb, eo, ra, rc, rfl, rfl, _, hlw, hle, hcw, hce, hsl⟩ := h.at hk
    obtain ⟨X, hX⟩ : ∃ X, X = L.getD k default := ⟨_, rfl⟩
    have hp : ∀ q : Nat, peekOf L k q = X.ws.getD q 0 := fun q => by
      unfold peekOf
      rw [if_pos (by omega), hX]
      rfl
    have hpn : ∀ q : Int, q < 0 → peekOf L k q = 0 := fun q hq => if_neg (by omega)
    rw [← hX] at hcw hsl
    obtain ⟨n, hn⟩ : ∃ n, n = L.length := ⟨_, rfl⟩
    rw [← hn] at hk hle hlw ⊢
    have h3 : (0 : Int) ≤ (k : Int) := Int.natCast_nonneg _
    have h4 : (k : Int) < (n : Int) := by omega
    have h5 : decide ((k : Int) < 0) = false := decide_eq_false (by omega)
    have h6 : decide (n ≤ k) = false := decide_eq_false (by omega)
    obtain ⟨rn, hrn⟩ : ∃ n, n = X.ws.length := ⟨_, rfl⟩
    rw [← hrn] at hcw hsl
    have hcw' := fun o => (Sep.alloc (fun _ => False) w o).cell hcw (fun x => x)
    by_cases hj : j < 0
    · rw [hpn j hj]
      clear h hn hX hp hpn hce hsl hrn
      go_enter Try.func48, Try.ntmps48
      go_wp2
      go_ret
      exact ⟨rfl, Sep.alloc _ _ _⟩
    · obtain ⟨q, rfl⟩ : ∃ q : Nat, j = q := ⟨j.toNat, by omega⟩
      rw [hp q]
      have h7 : decide ((q : Int) < 0) = false := decide_eq_false (by omega)
      by_cases hq : rn ≤ q
      · rw [show X.ws.getD q 0 = 0 by simp only [List.getD]; rw [List.getElem?_eq_none (by omega)]; rfl]
        have h8 : decide (rn ≤ q) = true := decide_eq_true hq
        clear h hn hX hp hpn hce hsl hrn hj hcw
        go_enter Try.func48, Try.ntmps48
        go_wp2
        go_ret
        exact ⟨rfl, Sep.alloc _ _ _⟩
      · have h8 : decide (rn ≤ q) = false := decide_eq_false hq
        obtain ⟨rb, ro, rfl, hrb, hc⟩ := SlcU.get hsl hrn q (by omega)
        obtain ⟨z, hz⟩ : ∃ z, z = X.ws.getD q 0 := ⟨_, rfl⟩
        rw [← hz] at hc ⊢
        have h9 : (0 : Int) ≤ (q : Int) := Int.natCast_nonneg _
        have h10 : (q : Int) < (rn : Int) := by omega
        have hc' := fun o => (Sep.alloc (fun _ => False) w o).cell hc (fun x => x)
        clear h hn hX hp hpn hce hsl hrn hj hz hq hc hcw
        go_enter Try.func48, Try.ntmps48
        go_wp2
        go_ret
        exact ⟨rfl, Sep.alloc _ _ _⟩
end Go.Proofs.Ytiljledgoflogaa
