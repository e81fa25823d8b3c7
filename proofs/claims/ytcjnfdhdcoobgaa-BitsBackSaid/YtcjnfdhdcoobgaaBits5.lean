/- The walks of the law's helpers for the pads and eyes: alive, and BitsNil. -/
import Derived.Test.YtcjnfdhdcoobgaaBitsR3
set_option linter.unusedVariables false
set_option linter.unusedSimpArgs false
namespace Go.Proofs.Ytcjnfdhdcoobgaa.Bit
open Go.RowKit Go.Proofs.YtcjnfdhdcoobgaaW.PrintWords Go.Proofs.YtcjnfdhdcoobgaaW.PrintLast Go.Proofs.YtcjnfdhdcoobgaaW.PrintMore Go.Proofs.Ytcjnfdhdcoobgaa.Byt

theorem bdn {B : Nat} {w w1 : World} (h : Below B w w1) (k : Nat) : Below B w (w1.drewN k) := ⟨h.os, h.tape, h.output, h.size, h.block⟩
/-- behind a call on a pad of the call's own -/
theorem btwo {B g : Nat} {w w1 w2 : World} (h : Below B w w1) (k : Two g w1 w2) (hb : B ≤ g) : Below B w w2 := h.trans (k.below.mono hb)

set_option maxRecDepth 100000 in
set_option maxHeartbeats 1000000 in
theorem alive (w : World) : Calls Try.prog 13 #[] w fun e w' => e = .returned (.bool true) ∧ Below w.heap.size w w' := by
  go_enter Try.func13, Try.ntmps13
  go_wp2_with fail
  refine (new_yes 1 (by omega) _).mono ?_
  rintro e w1 ⟨rfl, hp1, hb1, hs1⟩
  have T := front_any w.heap.size 1 0 0 _ 1 1 w1 hp1 (by decide) (by decide) (by decide) (by decide) (fun _ _ _ => rfl)
  go_wp2_with fail
  refine T.mono ?_
  rintro e w2 ⟨rfl, hp2, h2⟩
  have hb2 := btwo hb1 h2 (Nat.le_refl _)
  clear T
  have T := back_any w.heap.size 1 (0 + 1) 0 _ 1 1 w2 hp2 (by decide) (by decide) (by decide) (by decide) (fun i h1 h2 => (putF_free _ _ _ _ _ _ (by omega)).trans rfl)
  go_wp2_with fail
  refine T.mono ?_
  rintro e w3 ⟨rfl, hp3, h3⟩
  have hb3 := btwo hb2 h3 (Nat.le_refl _)
  clear T
  have T := pbytes_any w.heap.size 1 (0 + 1) (0 + 1) _ w3 hp3 (by decide)
  go_wp2_with fail
  refine T.mono ?_
  rintro e w4 ⟨v, rfl, hown, hb4⟩
  clear T
  have hb4' := bt hb3 hb4
  have hp4 : PadAt w4 w.heap.size 1 (0 + 1) (0 + 1) _ := ⟨(hb4.block _ (blk_lt hp3.at_)).trans hp3.at_, pw_own_below hp3.own hb4⟩
  have hl : bytesL (putB (putF (fun _ => false) 0 1 1 1) (8 * 1) 0 1 1) 1 = [129] := by decide
  rw [hl] at hown
  obtain ⟨A, c, rfl, hr⟩ := own_reads hown
  obtain ⟨ad, rfl, hc⟩ := hr.2.2 (by decide)
  have y := hc 0 (by decide)
  have y' : w4.cell? ad = some (.int .u8 129) := by simpa [Addr.add] using y
  clear y
  have T := fun k => front_no w.heap.size 1 (0 + 1) (0 + 1) _ 0 7 (w4.drewN k) (hp4.drew k) (by decide) (by decide) (by decide) (by decide)
  have e50 : putE (8 * 1 - (0 + 1) - (0 + 1)) 0 7 = 50 := by decide
  rw [e50] at T
  clear hr hc hown hl e50
  go_wp2_with fail
  refine (T 0).mono ?_
  rintro e w5 ⟨rfl, k5, rfl⟩
  go_wp2
  go_ret
  exact ⟨rfl, bdn hb4' _⟩

set_option maxRecDepth 100000 in
set_option maxHeartbeats 1000000 in
theorem nil_walk (v k : Int) (w : World) : Calls Try.prog 12 #[.int .u32 v, .int .i64 k] w fun e w' => e = .returned (.bool true) ∧ Below w.heap.size w w' := by
  go_enter Try.func12, Try.ntmps12
  go_wp2_with fail
  refine (alive _).mono ?_
  rintro e w1 ⟨rfl, hb1⟩
  go_wp2_with fail
  refine (efront_nil _ _).mono ?_
  rintro e w2 ⟨rfl, rfl⟩
  go_wp2_with fail
  refine (eback_nil _ _).mono ?_
  rintro e w2 ⟨rfl, rfl⟩
  go_wp2_with fail
  refine (used_nil _).mono ?_
  rintro e w2 ⟨rfl, rfl⟩
  go_wp2_with fail
  refine (front_nil _ _ _).mono ?_
  rintro e w2 ⟨rfl, rfl⟩
  go_wp2_with fail
  refine (back_nil _ _ _).mono ?_
  rintro e w2 ⟨rfl, rfl⟩
  go_wp2_with fail
  refine (pleft_nil _).mono ?_
  rintro e w2 ⟨rfl, rfl⟩
  go_wp2_with fail
  refine (pbytes_nil _).mono ?_
  rintro e w2 ⟨rfl, rfl⟩
  go_wp2_with fail
  refine (bit_nil _ _).mono ?_
  rintro e w2 ⟨rfl, rfl⟩
  go_wp2_with fail
  refine (eleft_nil _).mono ?_
  rintro e w2 ⟨rfl, rfl⟩
  go_wp2
  go_ret
  exact ⟨rfl, hb1⟩
end Go.Proofs.Ytcjnfdhdcoobgaa.Bit
