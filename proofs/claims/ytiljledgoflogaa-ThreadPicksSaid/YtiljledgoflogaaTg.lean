/- The walk of ThreadFull. -/
import Derived.Test.YtiljledgoflogaaTf
namespace Go.Proofs.Ytiljledgoflogaa
open Go.RowKit
set_option linter.unusedSimpArgs false
set_option linter.unusedVariables false

/-- Two accesses that read word 0. -/
abbrev ZZ : List Acc := [⟨0, 0, 0, 0⟩, ⟨0, 0, 0, 0⟩]
theorem zz_new {F : Nat → Prop} (w : World) (hF : F w.heap.size) : ArgF F (w.alloc (.cells #[.int .i64 0, .int .i64 0, .int .u64 0, .int .u64 0, .int .i64 0, .int .i64 0, .int .u64 0, .int .u64 0] 25)) (.slice (some ⟨w.heap.size, 0, none⟩) 2 2) ZZ := by
  refine .inl ⟨rfl, .inr ⟨w.heap.size, 0, 2, rfl, hF, by simp, Nat.le_refl _, by decide, fun j u hj => ?_⟩⟩
  rw [cell_of_heap (heap_alloc_new _ _), Nat.zero_add]
  have e : (accs ZZ) = [.int .i64 0, .int .i64 0, .int .u64 0, .int .u64 0, .int .i64 0, .int .i64 0, .int .u64 0, .int .u64 0] := rfl
  rw [e] at hj
  rw [← hj]
  simp

set_option maxRecDepth 100000 in
set_option maxHeartbeats 2000000 in
theorem tfull_walk (m : Nat) (hm : m ≤ 255) (w : World) : Calls Try.prog 15 #[.int .u8 m] w fun e w' => e = .returned (.bool true) ∧ Below w.heap.size w w' := by
  go_enter Try.func15, Try.ntmps15
  go_wp2_with fail
  refine (awake5_ok _).mono ?_
  rintro e w0 ⟨rfl, hs0⟩
  go_wp2_with fail
  refine (new_lit w0 [1] _ 1 rfl rfl (by decide) (by decide)).mono ?_
  rintro e w1 ⟨p, lo, hi, rfl, hm1, hs1, hlo, hhi⟩
  have HHI := Lib.hid hhi
  have hs01 := hs0.trans hs1
  have hsz := hs0.size
  clear hhi hs0 hs1
  go_wp2_with fail
  rw [show (1 : Int) + (m : Int) = ((1 + m : Nat) : Int) by omega]
  obtain ⟨N, hN⟩ : ∃ N, N = 1 + m := ⟨_, rfl⟩
  rw [← hN]
  have hN1 : 1 ≤ N := by omega
  have hN2 : N ≤ 256 := by omega
  clear hN
  refine (St.make (w0 := w) N hN1 (by omega) hm1 hs01 (by omega) HHI.out).mono ?_
  rintro e w2 ⟨wp, bp, c, hq, rfl, h2⟩
  replace h2 : St lo hi hq wp p bp c N w w2 [⟨[0], 1⟩] 0 ⟨[], none⟩ := h2
  clear hm1 HHI hs01 hlo hsz
  go_wp2
  go_loopw [8] (fun i wr => ∃ k : Nat, k ≤ N ∧ i = .int .i64 k ∧ St lo hi hq wp p bp c N w wr [⟨[0], 1⟩] 0 ⟨List.replicate k ZZ, none⟩) (fun i _ => N - (intOf i).toNat)
  case atStart => exact ⟨0, by omega, rfl, h2⟩
  case round =>
    obtain ⟨k, hk, rfl, hst⟩ := hrel
    by_cases hlt : k < N
    · have HST := Lib.hid hst
      clear hst h2
      go_wp2_with fail
      refine ((HST.out.same (Sep.alloc _ wr _)).give (l := ZZ) (zz_new wr (.inr HST.out.le)) (by simpa using hlt)).mono ?_
      rintro e w3 ⟨rfl, h3⟩
      have H3 := Lib.hid h3
      clear h3
      go_wp2
      go_roundw
      case rel => exact ⟨k + 1, by omega, by go_num, by simpa [List.replicate_succ'] using H3.out⟩
      case measure => simp [intOf]; omega
    · obtain rfl : k = N := by omega
      have HST := Lib.hid hst
      clear hst h2
      go_wp2_with fail
      refine (give_full HST.out.wk none 0 0 (by simp)).mono ?_
      rintro e w3 ⟨rfl, rfl⟩
      go_wp2_with fail
      refine (waits_any HST.out.wk).mono ?_
      rintro e w4 ⟨rfl, rfl⟩
      rw [List.length_replicate]
      go_wp2_with fail
      refine (cap_any HST.out.mem 0).mono ?_
      rintro e w5 ⟨rfl, hs5⟩
      rw [show capOf [⟨[0], 1⟩] 0 = .agg #[.int .i64 0, .int .u64 1] from rfl]
      obtain ⟨r, hr⟩ : ∃ r, k = r + 1 := ⟨k - 1, by omega⟩
      have HR := Lib.hid hr
      have h5 := HST.out.same hs5
      rw [show (⟨List.replicate k ZZ, none⟩ : Job) = ⟨ZZ :: List.replicate r ZZ, none⟩ by rw [hr, List.replicate_succ]] at h5
      clear hr
      go_wp2_with fail
      refine (h5.step (.inr ⟨rfl, rfl⟩) 0 1 (by omega) (by simp) (by simp)).mono ?_
      rintro e w6 (⟨hx, _⟩ | ⟨_, hx, _⟩ | ⟨_, _, rfl, h6⟩)
      · exact absurd hx (by decide)
      · cases hx
      have H6 := Lib.hid h6
      clear h6 h5 hs5
      unfold evt
      go_wp2_with fail
      refine (busy_any H6.out.wk).mono ?_
      rintro e w7 ⟨rfl, rfl⟩
      go_wp2_with fail
      refine (waits_any H6.out.wk).mono ?_
      rintro e w8 ⟨rfl, rfl⟩
      rw [List.length_replicate]
      have hk1 : ((r : Int) == (k : Int) - 1) = true := by have := HR.out; simp; omega
      go_wp2_with fail
      refine (H6.out.give .nil (by have := HR.out; simp; omega)).mono ?_
      rintro e w9 ⟨rfl, h9⟩
      have H9 := Lib.hid h9
      clear h9
      go_wp2_with fail
      refine (give_full H9.out.wk none 0 0 (by have := HR.out; simp; omega)).mono ?_
      rintro e w10 ⟨rfl, rfl⟩
      go_wp2
      go_ret
      exact ⟨rfl, H9.out.inn.below H9.out.ar.1 (Nat.le_refl _)⟩
end Go.Proofs.Ytiljledgoflogaa
