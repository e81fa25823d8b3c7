/- The walks of both Checks of a song. -/
import Derived.Test.YtcjnfdhdcoobgaaRiff2
set_option linter.unusedVariables false
set_option linter.unusedSimpArgs false
namespace Go.Proofs.Ytcjnfdhdcoobgaa.Rif
open Go.RowKit Go.Proofs.YtcjnfdhdcoobgaaW.PrintWords Go.Proofs.YtcjnfdhdcoobgaaW.PrintLast Go.Proofs.YtcjnfdhdcoobgaaW.PrintMore Go.Proofs.Ytcjnfdhdcoobgaa.Chk

/-- may it be a song? -/
def May (R C : Int) (n : Nat) : Prop := (C = 1 ∨ C = 2) ∧ 0 ≤ R ∧ R ≤ 3 ∧ n ≤ 4096 ∧ (C = 2 → n % 2 = 0)
instance (R C : Int) (n : Nat) : Decidable (May R C n) := by unfold May; infer_instance

theorem may_cases (R C : Int) (n : Nat) : (decide (May R C n) = true ∧ (C = 1 ∨ (C = 2 ∧ (n : Int) % 2 = 0)) ∧ 0 ≤ R ∧ R ≤ 3 ∧ n ≤ 4096) ∨ (decide (May R C n) = false ∧ (R < 0 ∨ (0 ≤ R ∧ 3 < R) ∨ (0 ≤ R ∧ R ≤ 3 ∧ C < 1) ∨ (0 ≤ R ∧ R ≤ 3 ∧ 1 ≤ C ∧ 2 < C) ∨
    (0 ≤ R ∧ R ≤ 3 ∧ (C = 1 ∨ C = 2) ∧ 4096 < n) ∨ (0 ≤ R ∧ R ≤ 3 ∧ C = 2 ∧ n ≤ 4096 ∧ (n : Int) % 2 = 1))) := by
  by_cases h : May R C n
  · refine .inl ⟨decide_eq_true h, ?_⟩
    unfold May at h
    omega
  · refine .inr ⟨decide_eq_false h, ?_⟩
    unfold May at h
    omega

set_option maxRecDepth 100000 in
set_option maxHeartbeats 1000000 in
theorem check_any (R C : Int) (A : Option Addr) (n c : Nat) (w : World) (hn : n ≤ 9223372036854775807) :
    Calls Try.prog 33 #[.agg #[.int .i64 R, .int .i64 C, .slice A n c]] w fun e w' => e = .returned (.int .i64 (if decide (May R C n) then 0 else 1)) ∧ Below w.heap.size w w' := by
  have hc := may_cases R C n
  generalize decide (May R C n) = m at hc
  rcases hc with ⟨rfl, rfl | ⟨rfl, he⟩, h1, h2, h3⟩ | ⟨rfl, h1 | ⟨h1, h2⟩ | ⟨h1, h2, h3⟩ | ⟨h1, h2, h3, h4⟩ | ⟨h1, h2, rfl | rfl, h4⟩ | ⟨h1, h2, rfl, h4, h5⟩⟩
  all_goals
    go_enter Try.func33, Try.ntmps33
    go_wp2
    go_ret
    exact ⟨rfl, ba (br w) _⟩

theorem rmay_cases (R C : Int) (n : Nat) : (decide (May R C n) = true ∧ (C = 1 ∨ (C = 2 ∧ (n : Int) % 2 = 0)) ∧ 0 ≤ R ∧ R ≤ 3 ∧ n ≤ 4096) ∨ (decide (May R C n) = false ∧ ((C ≠ 1 ∧ C ≠ 2) ∨ ((C = 1 ∨ C = 2) ∧ (R < 0 ∨ (0 ≤ R ∧ 3 < R) ∨ (0 ≤ R ∧ R ≤ 3 ∧ 4096 < n))) ∨
    (0 ≤ R ∧ R ≤ 3 ∧ C = 2 ∧ n ≤ 4096 ∧ (n : Int) % 2 = 1))) := by
  by_cases h : May R C n
  · refine .inl ⟨decide_eq_true h, ?_⟩
    unfold May at h
    omega
  · refine .inr ⟨decide_eq_false h, ?_⟩
    unfold May at h
    omega
set_option maxRecDepth 100000 in
set_option maxHeartbeats 1000000 in
theorem rcheck_any (R C : Int) (A : Option Addr) (n c : Nat) (w : World) (hn : n ≤ 9223372036854775807) :
    Calls Try.prog 32 #[.agg #[.int .i64 R, .int .i64 C, .slice A n c]] w fun e w' => e = .returned (.bool (decide (May R C n))) ∧ Below w.heap.size w w' := by
  have hc := rmay_cases R C n
  generalize decide (May R C n) = m at hc
  rcases hc with ⟨rfl, rfl | ⟨rfl, he⟩, h1, h2, h3⟩ | ⟨rfl, ⟨k1, k2⟩ | ⟨rfl | rfl, h1 | ⟨h1, h2⟩ | ⟨h1, h2, h3⟩⟩ | ⟨h1, h2, rfl, h4, h5⟩⟩
  case' inr.inl => have b1 : (C == 1) = false := beq_eq_false_iff_ne.2 k1; have b2 : (C == 2) = false := beq_eq_false_iff_ne.2 k2; have b3 : (C != 1) = true := bne_iff_ne.2 k1; have b4 : (C != 2) = true := bne_iff_ne.2 k2; clear k1 k2
  all_goals
    go_enter Try.func32, Try.ntmps32
    go_wp2
    go_ret
    exact ⟨rfl, ba (br w) _⟩
end Go.Proofs.Ytcjnfdhdcoobgaa.Rif
