/- The walk of widen with a finder's step. -/
import Derived.Test.YtikjolinendfgaaAr5
set_option linter.unusedVariables false
set_option linter.unusedSimpArgs false
namespace Go.Proofs.Ytikjolinendfgaa.Ari
open Go.RowKit Go.Proofs.YtikjolinendfgaaW.PrintWords Go.Proofs.YtikjolinendfgaaW.PrintLast Go.Proofs.YtikjolinendfgaaW.PrintMore Go.Proofs.Ytikjolinendfgaa.Bit

set_option maxRecDepth 100000 in
set_option maxHeartbeats 2000000 in
theorem widen_fgen {α : Type} (g : Nat) (p : Value) (lo wd : α → Nat) (nx : Nat → α → α) (J : α → World → Prop)
    (hl : ∀ off a, lo (nx off a) = 2 * (lo a - off)) (hw : ∀ off a, wd (nx off a) = 2 * wd a)
    (hsp : ∀ a W, J a W → SpanAt W g (lo a) (wd a)) (hin : ∀ a W, J a W → 1 ≤ wd a ∧ lo a + wd a ≤ 65536)
    (hst : ∀ a W (off : Nat) (x : Int), J a W → offL (lo a) (wd a) = some off → x = off → Calls Try.prog 52 #[p, .int .i64 x] W fun e W' => e = .returned (.tuple #[]) ∧ SpanAt W' g (lo a) (wd a) ∧ J (nx off a) ((W'.setCell ⟨g, 0, none⟩ (.int .i64 ((2 * (lo a - off) : Nat) : Int))).setCell ⟨g, 1, none⟩ (.int .i64 (((2 * (lo a - off) : Nat) : Int) + ((2 * wd a : Nat) : Int) - 1))).drew)
    (a0 : α) (w : World) (h0 : J a0 w) :
    Calls Try.prog 43 #[.pointer (some ⟨g, 0, none⟩), .func (.func 52) #[p] #[]] w fun e w' => e = .returned (.tuple #[]) ∧ ∃ k a, J a w' ∧ runG lo wd nx k a0 = some a ∧ offL (lo a) (wd a) = none := by
  have HSP := Lib.hid hsp
  have HIN := Lib.hid hin
  have HST := Lib.hid hst
  have HLW := Lib.hid (And.intro hl hw)
  clear hsp hin hst hl hw
  have H0 := Lib.hid h0
  clear h0
  go_enter Try.func43, Try.ntmps43
  go_wp2
  go_loopg [] (65536 - wd a0) (fun gk W => ∃ (k : Nat) (a : α), gk = 65536 - wd a ∧ Hid (J a W) ∧ Hid (runG lo wd nx k a0 = some a))
  case atStart => exact ⟨0, a0, rfl, H0, rfl⟩
  case round =>
    obtain ⟨k, a, rfl, HJ, HR⟩ := hrel
    obtain ⟨c0, c1, f0, f1⟩ := HSP.out a wr HJ.out
    obtain ⟨i1, i2⟩ := HIN.out a wr HJ.out
    have HC := Lib.hid (HST.out a wr)
    obtain ⟨L, hL⟩ : ∃ L, L = lo a := ⟨_, rfl⟩
    obtain ⟨D, hD⟩ : ∃ D, D = wd a := ⟨_, rfl⟩
    have HO : Hid (offL (lo a) (wd a) = offL L D) := by show _ = _; rw [hL, hD]
    rw [← hL] at c0
    rw [← hL, ← hD] at c1 i2 HC
    rw [← hD] at i1
    have HLD := Lib.hid (And.intro hL hD)
    clear hL
    by_cases h1 : (L : Int) + (D : Int) - 1 < 32768
    · have HOO : Hid (offL L D = some 0) := if_pos (show L + D ≤ 32768 by omega)
      go_wp2_with (go_at_call 52; refine (HC.out 0 0 HJ.out HOO.out rfl).mono ?_; rintro e1 w1 ⟨rfl, ⟨s0, s1, t0, t1⟩, hk⟩; have HK := Lib.hid hk; clear hk)
      go_region
      go_wp2
      go_roundg (65536 - wd (nx 0 a))
      case measure => rw [HLW.out.2, ← hD]; omega
      case rel =>
        refine ⟨k + 1, nx 0 a, rfl, ?_, by show (runG lo wd nx k a0).bind _ = _; rw [HR.out]; show Option.map _ (offL (lo a) (wd a)) = _; rw [HO.out, HOO.out]; rfl⟩
        have h := HK.out
        rw [show ((2 * (L - 0) : Nat) : Int) + ((2 * D : Nat) : Int) - 1 = 2 * ((L : Int) + (wd a : Int) - 1) + 1 from by omega, show ((2 * (L - 0) : Nat) : Int) = 2 * (L : Int) from by omega] at h
        exact h
    by_cases h2 : (32768 : Int) ≤ (L : Int)
    · have HOO : Hid (offL L D = some 32768) := (if_neg (show ¬ L + D ≤ 32768 by omega)).trans (if_pos (show 32768 ≤ L by omega))
      go_wp2_with (go_at_call 52; refine (HC.out 32768 32768 HJ.out HOO.out rfl).mono ?_; rintro e1 w1 ⟨rfl, ⟨s0, s1, t0, t1⟩, hk⟩; have HK := Lib.hid hk; clear hk)
      go_region
      go_wp2
      go_roundg (65536 - wd (nx 32768 a))
      case measure => rw [HLW.out.2, ← hD]; omega
      case rel =>
        refine ⟨k + 1, nx 32768 a, rfl, ?_, by show (runG lo wd nx k a0).bind _ = _; rw [HR.out]; show Option.map _ (offL (lo a) (wd a)) = _; rw [HO.out, HOO.out]; rfl⟩
        have h := HK.out
        rw [show ((2 * (L - 32768) : Nat) : Int) + ((2 * D : Nat) : Int) - 1 = 2 * ((L : Int) + (wd a : Int) - 1 - 32768) + 1 from by omega, show ((2 * (L - 32768) : Nat) : Int) = 2 * ((L : Int) - 32768) from by omega] at h
        exact h
    by_cases h3 : (16384 : Int) ≤ (L : Int)
    · by_cases h4 : (L : Int) + (D : Int) - 1 < 49152
      · have HOO : Hid (offL L D = some 16384) := (if_neg (show ¬ L + D ≤ 32768 by omega)).trans ((if_neg (show ¬ 32768 ≤ L by omega)).trans (if_pos (show 16384 ≤ L ∧ L + D ≤ 49152 by omega)))
        go_wp2_with (go_at_call 52; refine (HC.out 16384 16384 HJ.out HOO.out rfl).mono ?_; rintro e1 w1 ⟨rfl, ⟨s0, s1, t0, t1⟩, hk⟩; have HK := Lib.hid hk; clear hk)
        go_region
        go_wp2
        go_roundg (65536 - wd (nx 16384 a))
        case measure => rw [HLW.out.2, ← hD]; omega
        case rel =>
          refine ⟨k + 1, nx 16384 a, rfl, ?_, by show (runG lo wd nx k a0).bind _ = _; rw [HR.out]; show Option.map _ (offL (lo a) (wd a)) = _; rw [HO.out, HOO.out]; rfl⟩
          have h := HK.out
          rw [show ((2 * (L - 16384) : Nat) : Int) + ((2 * D : Nat) : Int) - 1 = 2 * ((L : Int) + (wd a : Int) - 1 - 16384) + 1 from by omega, show ((2 * (L - 16384) : Nat) : Int) = 2 * ((L : Int) - 16384) from by omega] at h
          exact h
      · have HOO : Hid (offL L D = none) := (if_neg (show ¬ L + D ≤ 32768 by omega)).trans ((if_neg (show ¬ 32768 ≤ L by omega)).trans (if_neg (show ¬ (16384 ≤ L ∧ L + D ≤ 49152) by omega)))
        go_wp2
        refine bodyPost_ret (results_none rfl _ _ _) rfl ?_
        exact ⟨rfl, k, a, HJ.out, HR.out, by rw [HO.out]; exact HOO.out⟩
    · have HOO : Hid (offL L D = none) := (if_neg (show ¬ L + D ≤ 32768 by omega)).trans ((if_neg (show ¬ 32768 ≤ L by omega)).trans (if_neg (show ¬ (16384 ≤ L ∧ L + D ≤ 49152) by omega)))
      go_wp2
      refine bodyPost_ret (results_none rfl _ _ _) rfl ?_
      exact ⟨rfl, k, a, HJ.out, HR.out, by rw [HO.out]; exact HOO.out⟩
end Go.Proofs.Ytikjolinendfgaa.Ari
