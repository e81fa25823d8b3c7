/- The walk of the statement CheckTurned. -/
import Derived.Test.YtcjnfdhdcoobgaaKBurst
set_option linter.unusedVariables false
set_option linter.unusedSimpArgs false
namespace Go.Proofs.Ytcjnfdhdcoobgaa.Chk
open Go.RowKit Go.Proofs.YtcjnfdhdcoobgaaW.PrintWords Go.Proofs.YtcjnfdhdcoobgaaW.PrintLast Go.Proofs.YtcjnfdhdcoobgaaW.PrintMore

def turnX (T k : Nat) : Nat := T / 2 ^ k % 2
def anyX (T k : Nat) : Bool := (List.range k).any fun j => turnX T j == 1
/-- M' is M, but for the first k bits turned from F on -/
def Turned (M : List Int) (F T k : Nat) (M' : List Int) : Prop := Bytes M' ∧ M'.length = M.length ∧ ∀ j, bitAt M' j = bitAt M j ^^^ (if F ≤ j ∧ j < F + k then turnX T (j - F) else 0)
theorem turn_go (T k : Nat) : ((T : Int) / 2 ^ k).tmod 2 = ((turnX T k : Nat) : Int) := by
  have e : (T : Int) / 2 ^ k = ((T / 2 ^ k : Nat) : Int) := by push_cast; rfl
  rw [e, Int.tmod_eq_emod_of_nonneg (Int.natCast_nonneg _)]
  unfold turnX; push_cast; rfl
theorem turnX_lt (T k : Nat) : turnX T k < 2 := by unfold turnX; omega
theorem anyX_succ (T k : Nat) : anyX T (k + 1) = (anyX T k || turnX T k == 1) := by
  unfold anyX; rw [List.range_succ, List.any_append]; simp
/-- one more bit that is turned, or not -/
theorem turned_yes {M M' : List Int} {F T k b : Nat} (h : Turned M F T k M') (hi : (F + k) / 8 < M.length) (hb : rd M' (((F + k) / 8 : Nat) : Int) = b) (hb8 : b < 256) (hx : turnX T k = 1) :
    Turned M F T (k + 1) (M'.set ((F + k) / 8) ((b ^^^ 2 ^ (7 - (F + k) % 8) : Nat) : Int)) := by
  obtain ⟨h1, h2, h3⟩ := h
  refine ⟨fun x hx' => ?_, by rw [List.length_set, h2], fun j => ?_⟩
  · rcases List.mem_or_eq_of_mem_set hx' with h | rfl
    · exact h1 x h
    · have hp : 2 ^ (7 - (F + k) % 8) < 2 ^ 8 := Nat.pow_lt_pow_right (by decide) (by omega)
      have := Nat.xor_lt_two_pow (n := 8) hb8 hp
      omega
  · rw [flip_bit M' (F + k) j b (by omega) hb, h3, Nat.xor_assoc]
    congr 1
    by_cases e : j = F + k
    · rw [if_pos e, if_neg (by omega), if_pos (by omega), show j - F = k from by omega, hx]; rfl
    · rw [if_neg e, Nat.xor_zero]
      by_cases e2 : F ≤ j ∧ j < F + k
      · rw [if_pos e2, if_pos (by omega)]
      · rw [if_neg e2, if_neg (by omega)]
theorem turned_no {M M' : List Int} {F T k : Nat} (h : Turned M F T k M') (hx : ¬ turnX T k = 1) : Turned M F T (k + 1) M' := by
  obtain ⟨h1, h2, h3⟩ := h
  refine ⟨h1, h2, fun j => ?_⟩
  rw [h3]
  congr 1
  by_cases e : j = F + k
  · rw [if_neg (by omega), if_pos (by omega), show j - F = k from by omega]
    have := turnX_lt T k; omega
  · by_cases e2 : F ≤ j ∧ j < F + k
    · rw [if_pos e2, if_pos (by omega)]
    · rw [if_neg e2, if_neg (by omega)]
theorem xor8 (b r : Nat) (hb : b < 256) (hr : r < 8) : bits .xor .u8 (b : Int) (128 / 2 ^ r) = ((b ^^^ 2 ^ (7 - r) : Nat) : Int) := by
  have hp : 2 ^ (7 - r) < 2 ^ 8 := Nat.pow_lt_pow_right (by decide) (by omega)
  have e : (128 : Int) / 2 ^ r = ((2 ^ (7 - r) : Nat) : Int) := by
    have : r = 0 ∨ r = 1 ∨ r = 2 ∨ r = 3 ∨ r = 4 ∨ r = 5 ∨ r = 6 ∨ r = 7 := by omega
    rcases this with rfl | rfl | rfl | rfl | rfl | rfl | rfl | rfl <;> decide
  have ha' : b % 2 ^ IntKind.u8.bits = b := Nat.mod_eq_of_lt hb
  have hb' : 2 ^ (7 - r) % 2 ^ IntKind.u8.bits = 2 ^ (7 - r) := Nat.mod_eq_of_lt hp
  have hx : b ^^^ 2 ^ (7 - r) < 2 ^ 8 := Nat.xor_lt_two_pow hb hp
  rw [e]
  simp only [bits, BitVec.ofInt_natCast, BitVec.toNat_xor, BitVec.toNat_ofNat, ha', hb']
  rw [IntKind.wrap_u8]; omega
end Go.Proofs.Ytcjnfdhdcoobgaa.Chk
