/- The plain laws of the packets: from the bytes back to the packet, and what is spoilt. -/
import Derived.Test.YtcjnfdhdcoobgaaPdu5
import Derived.Test.YtcjnfdhdcoobgaaKBurst
set_option linter.unusedVariables false
set_option linter.unusedSimpArgs false
namespace Go.Proofs.Ytcjnfdhdcoobgaa.Pdu
open Go.RowKit Go.Proofs.YtcjnfdhdcoobgaaW.PrintWords Go.Proofs.YtcjnfdhdcoobgaaW.PrintLast Go.Proofs.YtcjnfdhdcoobgaaW.PrintMore Go.Proofs.Ytcjnfdhdcoobgaa.Chk

theorem be3 (X : Int) : be X 3 3 = [X / 65536 % 256, X / 256 % 256, X / 1 % 256] := rfl
theorem be2 (X : Int) : be X 2 2 = [X / 256 % 256, X / 1 % 256] := rfl
theorem valN3 (a b c : Int) (ha : 0 ≤ a) (hb : 0 ≤ b) (hc : 0 ≤ c) : ((valN [a, b, c] 3 : Nat) : Int) = 65536 * a + 256 * b + c := by
  show ((256 * (256 * (256 * 0 + a.toNat) + b.toNat) + c.toNat : Nat) : Int) = _
  omega
theorem valN2 (a b : Int) (ha : 0 ≤ a) (hb : 0 ≤ b) : ((valN [a, b] 2 : Nat) : Int) = 256 * a + b := by
  show ((256 * (256 * 0 + a.toNat) + b.toNat : Nat) : Int) = _
  omega
theorem body_cons (K E N : Int) (L : List Int) : bodyL K E N L = K :: E / 65536 % 256 :: E / 256 % 256 :: E / 1 % 256 :: N / 65536 % 256 :: N / 256 % 256 :: N / 1 % 256 :: (L.length : Int) / 256 % 256 :: (L.length : Int) / 1 % 256 :: L := rfl
theorem body_length (K E N : Int) (L : List Int) : (bodyL K E N L).length = 9 + L.length := by rw [body_cons]; simp only [List.length_cons]; omega
theorem body_parts (K E N : Int) (L : List Int) (h : May K E N L) : (K, E, N, L) = parts (bodyL K E N L) := by
  obtain ⟨hk, -, e1, e2, n1, n2, -⟩ := h
  have a := valN3 (E / 65536 % 256) (E / 256 % 256) (E / 1 % 256) (by omega) (by omega) (by omega)
  have b := valN3 (N / 65536 % 256) (N / 256 % 256) (N / 1 % 256) (by omega) (by omega) (by omega)
  show _ = (K, ((valN [E / 65536 % 256, E / 256 % 256, E / 1 % 256] 3 : Nat) : Int), ((valN [N / 65536 % 256, N / 256 % 256, N / 1 % 256] 3 : Nat) : Int), L)
  rw [a, b]
  congr 2
  · omega
  · congr 1; omega
theorem body_num (K E N : Int) (L : List Int) (h : L.length ≤ 512) : valN (((bodyL K E N L).take 9).drop 7) 2 = (bodyL K E N L).length - 9 := by
  have a := valN2 ((L.length : Int) / 256 % 256) ((L.length : Int) / 1 % 256) (by omega) (by omega)
  have e : ((bodyL K E N L).take 9).drop 7 = [(L.length : Int) / 256 % 256, (L.length : Int) / 1 % 256] := rfl
  rw [e, body_length]
  omega
theorem seal_fits (l : List Int) : fits 24 5592405 1627 (sealL l) ∧ (sealL l).take ((sealL l).length - 3) = l := fits_seal Knd.k24 l
theorem seal_length (l : List Int) : (sealL l).length = l.length + 3 := by unfold sealL; rw [List.length_append, tailL_length]
theorem seal_byte {l : List Int} (h : Bytes l) : Bytes (sealL l) := Bytes.append h (tailL_byte _ _ _)
/-- equal lengths and equal bits: equal bytes -/
theorem bits_ext {M M' : List Int} (h : Bytes M) (h' : Bytes M') (hl : M'.length = M.length) (hb : ∀ j, bitAt M' j = bitAt M j) : M' = M := by
  apply List.ext_getElem hl
  intro i h1 h2
  have q : ∀ k, k < 8 → (rd M' (i : Int)).toNat / 2 ^ (7 - k) % 2 = (rd M (i : Int)).toNat / 2 ^ (7 - k) % 2 := fun k hk => by
    have e := hb (8 * i + k)
    unfold bitAt at e
    rw [show (8 * i + k) / 8 = i from by omega, show (8 * i + k) % 8 = k from by omega] at e
    exact e
  have b1 := rd_byte h (i : Int)
  have b2 := rd_byte h' (i : Int)
  have e0 : (rd M' (i : Int)).toNat = (rd M (i : Int)).toNat := by
    apply Nat.eq_of_testBit_eq
    intro k
    by_cases hk : k < 8
    · have e := q (7 - k) (by omega)
      rw [show 7 - (7 - k) = k from by omega, ← Nat.toNat_testBit, ← Nat.toNat_testBit] at e
      revert e
      cases (rd M' (i : Int)).toNat.testBit k <;> cases (rd M (i : Int)).toNat.testBit k <;> simp
    · rw [Nat.testBit_lt_two_pow (Nat.lt_of_lt_of_le (show _ < 2 ^ 8 by omega) (Nat.pow_le_pow_right (by decide) (by omega))), Nat.testBit_lt_two_pow (Nat.lt_of_lt_of_le (show _ < 2 ^ 8 by omega) (Nat.pow_le_pow_right (by decide) (by omega)))]
  have e : rd M' (i : Int) = rd M (i : Int) := by omega
  unfold rd at e
  rw [Int.toNat_natCast, List.getD_eq_getElem?_getD, List.getD_eq_getElem?_getD, List.getElem?_eq_getElem h1, List.getElem?_eq_getElem h2] at e
  exact e
theorem spoil_byte {M : List Int} (h : Bytes M) (a : Int) (m : Nat) : Bytes (spoil M a m) := by
  unfold spoil; split; exact h; exact spoilL_byte h _ _ _
theorem spoil_length (M : List Int) (a : Int) (m : Nat) : (spoil M a m).length = M.length := by
  unfold spoil; split; rfl; exact spoilL_length _ _ _ _
theorem mx_zero (m : Nat) : (∀ j, j < 24 → mx m j = 0) ↔ m % 16777216 = 0 := by
  constructor
  · intro h
    have t : ∀ n, n ≤ 24 → m % 2 ^ n = 0 := by
      intro n
      induction n with
      | zero => intro _; exact Nat.mod_one m
      | succ n ih =>
        intro hn
        have e := h (23 - n) (by omega)
        unfold mx at e
        rw [show 23 - (23 - n) = n from by omega] at e
        rw [Nat.pow_succ, Nat.mod_mul, e, ih (by omega), Nat.mul_zero]
    exact t 24 (by omega)
  · intro h j hj
    unfold mx
    obtain ⟨q, hq⟩ := Nat.dvd_of_mod_eq_zero h
    have e : m = 2 ^ (23 - j) * (2 * (2 ^ j * q)) := by
      rw [hq, show (16777216 : Nat) = 2 ^ (23 - j) * (2 * 2 ^ j) from by rw [← Nat.pow_succ', ← Nat.pow_add, show 23 - j + (j + 1) = 24 from by omega]]
      simp only [Nat.mul_assoc]
    rw [e, Nat.mul_div_cancel_left _ (Nat.pow_pos (by decide)), Nat.mul_mod_right]
theorem spoil_fits {M : List Int} (h : Bytes M) (hf : fits 24 5592405 1627 M) (a : Int) (m : Nat) : fits 24 5592405 1627 (spoil M a m) ↔ m % 16777216 = 0 := by
  have h3 : 3 ≤ M.length := hf.1
  have e : spoil M a m = spoilL M (firstN a M.length) (mx m) 24 := if_neg (by omega)
  have hF := firstN_lt a M.length h3
  rw [e, ← mx_zero]
  exact burst Knd.k24 M _ h (spoilL_byte h _ _ _) (spoilL_length _ _ _ _) hf (firstN a M.length) (by omega) (mx m) (mx_lt m) (spoilL_bits h (mx_lt m) 24 (by omega))
theorem spoil_none (M : List Int) (a : Int) (m : Nat) (h : m % 16777216 = 0) : spoil M a m = M := by
  unfold spoil
  split
  · rfl
  · have hz := (mx_zero m).2 h
    generalize firstN a M.length = F
    have t : ∀ k, k ≤ 24 → spoilL M F (mx m) k = M := by
      intro k
      induction k with
      | zero => intro _; rfl
      | succ k ih =>
        intro hk
        show (if mx m k = 1 then _ else _) = _
        rw [if_neg (by rw [hz k (by omega)]; decide), ih (by omega)]
    exact t 24 (by omega)
theorem spoil_twice {M : List Int} (h : Bytes M) (a : Int) (m : Nat) : spoil (spoil M a m) a m = M := by
  have hl := spoil_length M a m
  by_cases h3 : M.length < 3
  · rw [show spoil M a m = M from if_pos h3]; exact if_pos h3
  · have e : spoil M a m = spoilL M (firstN a M.length) (mx m) 24 := if_neg h3
    have e2 : spoil (spoil M a m) a m = spoilL (spoil M a m) (firstN a M.length) (mx m) 24 := by rw [← hl]; exact if_neg (by omega)
    have hF := firstN_lt a M.length (by omega)
    have hb := spoil_byte h a m
    apply bits_ext h (spoil_byte hb a m) ((spoil_length _ _ _).trans hl)
    intro j
    rw [e2, spoilL_bits hb (mx_lt m) 24 (by omega), e, spoilL_bits h (mx_lt m) 24 (by omega), Nat.xor_assoc, Nat.xor_self, Nat.xor_zero]
end Go.Proofs.Ytcjnfdhdcoobgaa.Pdu
