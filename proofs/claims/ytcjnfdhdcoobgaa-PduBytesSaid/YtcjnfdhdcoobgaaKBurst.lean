/- Plain lemmas: bytes with their sum of which bits were turned side by side are told. -/
import Derived.Test.YtcjnfdhdcoobgaaKMore
set_option linter.unusedVariables false
namespace Go.Proofs.Ytcjnfdhdcoobgaa.Chk
open Go.RowKit Go.Proofs.YtcjnfdhdcoobgaaW.PrintWords Go.Proofs.YtcjnfdhdcoobgaaW.PrintLast Go.Proofs.YtcjnfdhdcoobgaaW.PrintMore

theorem bit_xor (x y m : Nat) : (x ^^^ y) / 2 ^ m % 2 = (x / 2 ^ m % 2) ^^^ (y / 2 ^ m % 2) := by
  rw [Nat.xor_div_two_pow]
  exact @Nat.xor_mod_two_pow _ _ 1
theorem bit_pow (a m : Nat) : 2 ^ a / 2 ^ m % 2 = if m = a then 1 else 0 := by
  have h := Nat.testBit_two_pow (n := a) (m := m)
  rw [← Nat.toNat_testBit, h]
  by_cases e : a = m
  · rw [decide_eq_true e, if_pos e.symm]; rfl
  · rw [decide_eq_false e, if_neg (fun h => e h.symm)]; rfl
/-- one bit turned -/
theorem flip_bit (M : List Int) (i j b : Nat) (hi : i / 8 < M.length) (hb : rd M ((i / 8 : Nat) : Int) = b) :
    bitAt (M.set (i / 8) ((b ^^^ 2 ^ (7 - i % 8) : Nat) : Int)) j = bitAt M j ^^^ (if j = i then 1 else 0) := by
  unfold bitAt
  by_cases h : j / 8 = i / 8
  · have e1 : rd (M.set (i / 8) ((b ^^^ 2 ^ (7 - i % 8) : Nat) : Int)) ((j / 8 : Nat) : Int) = ((b ^^^ 2 ^ (7 - i % 8) : Nat) : Int) := by
      unfold rd; rw [h, Int.toNat_natCast, List.getD_eq_getElem?_getD, List.getElem?_set_self hi]; rfl
    rw [e1, h, hb, Int.toNat_natCast, Int.toNat_natCast, bit_xor, bit_pow]
    by_cases e : j = i
    · rw [if_pos e, if_pos (by rw [e])]
    · rw [if_neg e, if_neg (by omega)]
  · have e1 : rd (M.set (i / 8) ((b ^^^ 2 ^ (7 - i % 8) : Nat) : Int)) ((j / 8 : Nat) : Int) = rd M ((j / 8 : Nat) : Int) := by
      unfold rd; rw [Int.toNat_natCast, List.getD_eq_getElem?_getD, List.getD_eq_getElem?_getD, List.getElem?_set_ne (by omega)]
    rw [e1, if_neg (by rintro rfl; exact h rfl), Nat.xor_zero]
/-- the bits x 0, x 1, .., the highest first, as a number -/
def numX (x : Nat → Nat) : Nat → Nat
  | 0 => 0
  | n + 1 => 2 * numX x n + x n
theorem numX_lt {x : Nat → Nat} (hx : ∀ j, x j < 2) : ∀ n, numX x n < 2 ^ n
  | 0 => by simp [numX]
  | n + 1 => by have := numX_lt hx n; have := hx n; simp only [numX, Nat.pow_succ]; omega
theorem numX_bit {x : Nat → Nat} (hx : ∀ j, x j < 2) : ∀ n j, j < n → numX x n / 2 ^ (n - 1 - j) % 2 = x j
  | 0, j, h => by omega
  | n + 1, j, h => by
    simp only [numX]
    have hn := hx n
    by_cases e : j = n
    · subst e
      rw [show j + 1 - 1 - j = 0 from by omega, Nat.pow_zero, Nat.div_one]; omega
    · rw [show n + 1 - 1 - j = 1 + (n - 1 - j) from by omega, Nat.pow_add, Nat.pow_one, ← Nat.div_div_eq_div_mul, show (2 * numX x n + x n) / 2 = numX x n from by omega]
      exact numX_bit hx n j (by omega)
theorem numX_zero {x : Nat → Nat} (hx : ∀ j, x j < 2) (n : Nat) : numX x n = 0 ↔ ∀ j, j < n → x j = 0 := by
  constructor
  · intro h j hj
    rw [← numX_bit hx n j hj, h, Nat.zero_div]
  · induction n with
    | zero => intro _; rfl
    | succ n ih => intro h; simp only [numX]; rw [ih fun j hj => h j (by omega), h n (by omega)]
theorem low_bit (h b m : Nat) (hm : m ≤ 7) : (h * 256 + b) / 2 ^ m % 2 = b / 2 ^ m % 2 := by
  have e : 256 = 2 ^ (7 - m) * 2 * 2 ^ m := by
    rw [Nat.mul_assoc, ← Nat.pow_succ', ← Nat.pow_add]; rw [show 7 - m + (m + 1) = 8 from by omega]
  rw [e, ← Nat.mul_assoc, Nat.add_comm, Nat.add_mul_div_right _ _ (Nat.two_pow_pos m), ← Nat.mul_assoc]
  omega
theorem rd_nat {M : List Int} (hM : Bytes M) (i : Nat) : ∃ v : Nat, rd M (i : Int) = v ∧ v < 256 := by
  have := rd_byte hM (i : Int)
  exact ⟨(rd M (i : Int)).toNat, by omega, by omega⟩
theorem drop_rd {M : List Int} {n : Nat} (h : n < M.length) : M.drop n = rd M (n : Int) :: M.drop (n + 1) := by
  rw [List.drop_eq_getElem_cons h]
  unfold rd
  rw [Int.toNat_natCast, List.getD_eq_getElem?_getD, List.getElem?_eq_getElem h]; rfl
theorem bitAt_at (M : List Int) (n q r v : Nat) (hr : r < 8) (hv : rd M ((n + q : Nat) : Int) = v) : bitAt M (8 * n + (8 * q + r)) = v / 2 ^ (7 - r) % 2 := by
  unfold bitAt
  rw [show (8 * n + (8 * q + r)) / 8 = n + q from by omega, show (8 * n + (8 * q + r)) % 8 = r from by omega, hv, Int.toNat_natCast]
theorem tail_bits {wd st p : Nat} (hk : Knd wd st p) (M : List Int) (hM : Bytes M) (n : Nat) (hn : M.length = n + wd / 8) :
    ∃ T, T < 2 ^ wd ∧ (∀ S, S < 2 ^ wd → (tailL wd S (wd / 8) = M.drop n ↔ S = T)) ∧ ∀ j, j < wd → bitAt M (8 * n + j) = T / 2 ^ (wd - 1 - j) % 2 := by
  obtain ⟨a, ha, ha8⟩ := rd_nat hM n
  obtain ⟨b, hb, hb8⟩ := rd_nat hM (n + 1)
  obtain ⟨c, hc, hc8⟩ := rd_nat hM (n + 2)
  cases hk with
  | k8 =>
    refine ⟨a, by omega, fun S hS => ?_, fun j hj => ?_⟩
    · rw [drop_rd (by omega), ha, List.drop_eq_nil_of_le (by omega)]
      simp [tailL, List.range_succ]; omega
    · have := bitAt_at M n 0 j a (by omega) (by simpa using ha)
      rw [show 8 * 0 + j = j from by omega] at this
      rw [this]
  | k16 =>
    refine ⟨a * 256 + b, by omega, fun S hS => ?_, fun j hj => ?_⟩
    · rw [drop_rd (by omega), drop_rd (by omega), ha, hb, List.drop_eq_nil_of_le (by omega)]
      simp [tailL, List.range_succ]; omega
    · rcases Nat.lt_or_ge j 8 with h | h
      · have := bitAt_at M n 0 j a (by omega) (by simpa using ha)
        rw [show 8 * 0 + j = j from by omega] at this
        rw [this, show 16 - 1 - j = 8 + (7 - j) from by omega, Nat.pow_add, ← Nat.div_div_eq_div_mul, show (a * 256 + b) / 2 ^ 8 = a from by omega]
      · have := bitAt_at M n 1 (j - 8) b (by omega) (by simpa using hb)
        rw [show 8 * 1 + (j - 8) = j from by omega] at this
        rw [this, show 16 - 1 - j = 7 - (j - 8) from by omega, low_bit _ _ _ (by omega)]
  | k24 =>
    refine ⟨(a * 256 + b) * 256 + c, by omega, fun S hS => ?_, fun j hj => ?_⟩
    · rw [drop_rd (by omega), drop_rd (by omega), drop_rd (by omega), ha, hb, hc, List.drop_eq_nil_of_le (by omega)]
      simp [tailL, List.range_succ]; omega
    · rcases Nat.lt_or_ge j 8 with h | h
      · have := bitAt_at M n 0 j a (by omega) (by simpa using ha)
        rw [show 8 * 0 + j = j from by omega] at this
        rw [this, show 24 - 1 - j = 16 + (7 - j) from by omega, Nat.pow_add, ← Nat.div_div_eq_div_mul, show ((a * 256 + b) * 256 + c) / 2 ^ 16 = a from by omega]
      rcases Nat.lt_or_ge j 16 with h' | h'
      · have := bitAt_at M n 1 (j - 8) b (by omega) (by simpa using hb)
        rw [show 8 * 1 + (j - 8) = j from by omega] at this
        rw [this, show 24 - 1 - j = 8 + (7 - (j - 8)) from by omega, Nat.pow_add, ← Nat.div_div_eq_div_mul, show ((a * 256 + b) * 256 + c) / 2 ^ 8 = a * 256 + b from by omega, low_bit _ _ _ (by omega)]
      · have := bitAt_at M n 2 (j - 16) c (by omega) (by simpa using hc)
        rw [show 8 * 2 + (j - 16) = j from by omega] at this
        rw [this, show 24 - 1 - j = 7 - (j - 16) from by omega, low_bit _ _ _ (by omega)]
/-- bytes fit just where all their bits end in 0 -/
theorem fits_feed {wd st p : Nat} (hk : Knd wd st p) (M : List Int) (hM : Bytes M) (h : wd / 8 ≤ M.length) : fits wd st p M ↔ Crc.feed wd p (bitAt M) (8 * M.length) 0 st = 0 := by
  obtain ⟨w1, w2, hst, hp, ho, -, -, w8, -⟩ := hk.w
  obtain ⟨n, hn⟩ : ∃ n, M.length = n + wd / 8 := ⟨M.length - wd / 8, by omega⟩
  obtain ⟨T, hT, h1, h2⟩ := tail_bits hk M hM n hn
  unfold fits
  rw [show M.length - wd / 8 = n from by omega, show 8 * M.length = 8 * n + wd from by omega, Crc.feed_add, Nat.zero_add]
  have hS := sumN_lt hk M (8 * n)
  show _ ↔ Crc.feed wd p (bitAt M) wd (8 * n) (sumN wd st p M (8 * n)) = 0
  rw [Crc.feed_tail (by omega) ho hp (T := T) hS hT h2]
  rw [← h1 _ hS]
  exact ⟨fun h => h.2, fun e => ⟨h, e⟩⟩
/-- of bytes that fit, those whose bits were turned side by side fit just where none was turned -/
theorem burst {wd st p : Nat} (hk : Knd wd st p) (M M' : List Int) (hM : Bytes M) (hM' : Bytes M') (hl : M'.length = M.length) (h : fits wd st p M) (F : Nat) (hF : F + wd ≤ 8 * M.length) (x : Nat → Nat) (hx : ∀ j, x j < 2)
    (hb : ∀ j, bitAt M' j = bitAt M j ^^^ (if F ≤ j ∧ j < F + wd then x (j - F) else 0)) : fits wd st p M' ↔ ∀ j, j < wd → x j = 0 := by
  obtain ⟨w1, w2, hst, hp, ho, -, -, w8, -⟩ := hk.w
  have h8 : wd / 8 ≤ M.length := h.1
  rw [fits_feed hk M' hM' (by omega), hl]
  have h0 := (fits_feed hk M hM h8).1 h
  have hE : ∀ j, (if F ≤ j ∧ j < F + wd then x (j - F) else 0) < 2 := fun j => by split; exact hx _; omega
  have e1 : Crc.feed wd p (bitAt M') (8 * M.length) 0 st = Crc.feed wd p (fun j => bitAt M j ^^^ (if F ≤ j ∧ j < F + wd then x (j - F) else 0)) (8 * M.length) 0 (st ^^^ 0) := by
    rw [Nat.xor_zero]; exact Crc.feed_congr _ _ _ fun j _ _ => hb j
  rw [e1, Crc.feed_xor (by omega) hp (bitAt_lt M) hE _ _ _ _ hst (Nat.two_pow_pos _), h0, Nat.zero_xor]
  obtain ⟨rest, hr⟩ : ∃ r, 8 * M.length = F + (wd + r) := ⟨8 * M.length - F - wd, by omega⟩
  rw [hr, Crc.feed_add F (wd + rest), Crc.feed_add wd rest]
  have a1 : Crc.feed wd p (fun j => if F ≤ j ∧ j < F + wd then x (j - F) else 0) F 0 0 = 0 := by
    rw [Crc.feed_congr (g := fun _ => 0) _ _ _ (fun j _ hj => if_neg (by omega))]; exact Crc.feed_zero (by omega) _ _
  rw [a1, Nat.zero_add]
  have hX := numX_lt hx wd
  have a2 : Crc.feed wd p (fun j => if F ≤ j ∧ j < F + wd then x (j - F) else 0) wd F 0 = Crc.feed wd p (fun _ => 0) wd F (numX x wd) := by
    refine Crc.feed_burst (by omega) hp hX fun j hj => ?_
    rw [if_pos (by omega), numX_bit hx wd j hj, show F + j - F = j from by omega]
  rw [a2]
  rw [Crc.feed_congr (g := fun _ => 0) _ (F + wd) _ (fun j hj _ => if_neg (by omega)), ← Crc.feed_add, ← numX_zero hx wd]
  constructor
  · exact fun e => Crc.feed_zero_inj (by omega) ho hp _ _ _ hX e
  · intro e; rw [e]; exact Crc.feed_zero (by omega) _ _
end Go.Proofs.Ytcjnfdhdcoobgaa.Chk
