/- The walks of the law's helpers for the queue: alive, and QueueNil. -/
import Derived.Test.YtidfahjebjaneaaQueue1
set_option linter.unusedVariables false
set_option linter.unusedSimpArgs false
namespace Go.Proofs.Ytidfahjebjaneaa.Que
open Go.RowKit Go.Proofs.YtidfahjebjaneaaW.PrintWords Go.Proofs.YtidfahjebjaneaaW.PrintLast Go.Proofs.YtidfahjebjaneaaW.PrintMore

theorem bg {B : Nat} {w w1 w2 : World} {b : Nat} (h : Below B w w1) (hg : w1.grownBy w2 (some b)) (hb : B ≤ b) (hB : B ≤ w1.heap.size) : Below B w w2 :=
  h.grown hg hB (fun k e => by cases e; exact hb)
theorem bdn {B : Nat} {w w1 : World} (h : Below B w w1) (k : Nat) : Below B w (w1.drewN k) := ⟨h.os, h.tape, h.output, h.size, h.block⟩

set_option maxRecDepth 100000 in
set_option maxHeartbeats 1000000 in
theorem alive (w : World) : Calls Try.prog 25 #[] w fun e w' => e = .returned (.bool true) ∧ Below w.heap.size w w' := by
  go_enter Try.func25, Try.ntmps25
  go_wp2_with fail
  refine (new_yes 1 (by omega) (by omega) _).mono ?_
  rintro e w1 ⟨rfl, hq, hb1, hs1⟩
  obtain ⟨q, hq, hF, hN⟩ : ∃ q : Q, QAt w1 w.heap.size q ∧ q.F = 1 ∧ q.N = 0 := ⟨_, hq, rfl, rfl⟩
  have T := push_ok w.heap.size q ⟨#[97]⟩ w1 hq ⟨by omega, by omega, by omega⟩ (by omega) (by decide)
  rw [hN] at T
  go_wp2_with fail
  refine T.mono ?_
  rintro e w2 ⟨rfl, hq2, hg2⟩
  have hb2 := bg hb1 hg2 (Nat.le_refl _) (by omega)
  clear T
  obtain ⟨q2, hq2, hF, hN⟩ : ∃ q : Q, QAt w2 w.heap.size q ∧ q.F = 1 ∧ q.N = 1 := ⟨_, hq2, hF, by simp⟩
  have T := push_ok w.heap.size q2 ⟨#[98]⟩ w2 hq2 ⟨by omega, by omega, by omega⟩ (by omega) (by decide)
  rw [hN] at T
  go_wp2_with fail
  refine T.mono ?_
  rintro e w3 ⟨rfl, hq3, hg3⟩
  have hb3 := bg hb2 hg3 (Nat.le_refl _) hb2.size
  clear T
  obtain ⟨q3, hq3, hF, hN, hP, hO⟩ : ∃ q : Q, QAt w3 w.heap.size q ∧ q.F = 1 ∧ q.N = 2 ∧ q.P 0 = ⟨#[98]⟩ ∧ q.O 0 = true := ⟨_, hq3, hF, by simp, by simp [Q.setP, Q.setO, hF], by simp [Q.setP, Q.setO, hF]⟩
  have T := fun k => open_any w.heap.size q3 0 (w3.drewN k) hq3 ⟨by omega, by omega, by omega⟩
  have T2 := fun k => open_any w.heap.size q3 1 (w3.drewN k) hq3 ⟨by omega, by omega, by omega⟩
  have e1 : inWin q3 0 = false := by simp [inWin, hF, hN]
  have e2 : inWin q3 1 = true := by simp [inWin, hF, hN]
  have e3 : (1 : Int).toNat % q3.F = 0 := by rw [hF]; rfl
  simp only [e1, e2, e3, hO, hP, Bool.false_and, Bool.true_and, if_true, Bool.and_self] at T T2
  have TL := fun k => len_any w.heap.size q3 (w3.drewN k) hq3
  have TN := fun k => next_any w.heap.size q3 (w3.drewN k) hq3
  simp only [hF, hN] at TL TN
  go_wp2_with fail
  refine (T 0).mono ?_
  rintro e w4 ⟨rfl, k4, rfl⟩
  go_wp2_with fail
  refine (T2 _).mono ?_
  rintro e w5 ⟨rfl, k5, rfl⟩
  go_wp2_with fail
  refine (TL _).mono ?_
  rintro e w6 ⟨rfl, k6, rfl⟩
  go_wp2_with fail
  refine (TN _).mono ?_
  rintro e w7 ⟨rfl, rfl⟩
  go_wp2_with fail
  go_ret
  exact ⟨rfl, bdn hb3 _⟩

set_option maxRecDepth 100000 in
set_option maxHeartbeats 1000000 in
theorem nil_walk (s : ByteArray) (n : Int) (w : World) : Calls Try.prog 7 #[.string s, .int .i64 n] w fun e w' => e = .returned (.bool true) ∧ Below w.heap.size w w' := by
  go_enter Try.func7, Try.ntmps7
  go_wp2_with fail
  refine (alive _).mono ?_
  rintro e w1 ⟨rfl, hb1⟩
  go_wp2_with fail
  refine (push_nil _ _).mono ?_
  rintro e w2 ⟨rfl, rfl⟩
  go_wp2_with fail
  refine (open_nil _ _).mono ?_
  rintro e w3 ⟨rfl, k3, rfl⟩
  have hb3 := bdn hb1 k3
  go_wp2_with fail
  refine (came_nil _ _).mono ?_
  rintro e w4 ⟨rfl, rfl⟩
  go_wp2_with fail
  refine (len_nil _).mono ?_
  rintro e w4 ⟨rfl, rfl⟩
  go_wp2_with fail
  refine (next_nil _).mono ?_
  rintro e w4 ⟨rfl, rfl⟩
  go_wp2_with fail
  go_ret
  exact ⟨rfl, hb3⟩
end Go.Proofs.Ytidfahjebjaneaa.Que
