/- The walks of check.of, check.Bits, check.Of and of the reference's Kind. -/
import Derived.Test.YtcjnfdhdcoobgaaCheck1
set_option linter.unusedVariables false
set_option linter.unusedSimpArgs false
namespace Go.Proofs.Ytcjnfdhdcoobgaa.Chk
open Go.RowKit Go.Proofs.YtcjnfdhdcoobgaaW.PrintWords Go.Proofs.YtcjnfdhdcoobgaaW.PrintLast Go.Proofs.YtcjnfdhdcoobgaaW.PrintMore

set_option maxHeartbeats 400000 in
theorem of_knd {wd st p : Nat} (hk : Knd wd st p) (w : World) :
    Calls Try.prog 73 #[.int .i64 wd] w fun e w' => e = .returned (.tuple #[.agg #[.int .i64 wd, .int .u32 st, .int .u32 p], .int .i64 0]) ∧ Below w.heap.size w w' := by
  cases hk
  all_goals
    go_enter Try.func73, Try.ntmps73
    go_wp2
    refine bodyPost_ret ?_ ?_ ⟨rfl, (Below.refl _ _).alloc (Nat.le_refl _) _⟩
    · simp [results, Try.results73, go_sem]
    · rfl
set_option maxHeartbeats 400000 in
theorem kind_knd {wd st p : Nat} (hk : Knd wd st p) (W : Int) (hW : W = wd) (w : World) :
    Calls Try.prog 76 #[.int .i64 W] w fun e w' => e = .returned (.tuple #[.int .u32 st, .int .u32 p, .bool true]) ∧ w = w' := by
  subst hW
  cases hk
  all_goals
    go_enter Try.func76, Try.ntmps76
    go_wp2
    go_ret3
    exact ⟨rfl, rfl⟩
end Go.Proofs.Ytcjnfdhdcoobgaa.Chk
