/- Plain lemmas on a check sum that is taken bit by bit: it is linear over xor, no state but 0 goes to 0 by a bit 0, and w bits put into the register 0 are the register of these bits. No program in sight. -/
import Derived.Laws.BitsLemmas
set_option linter.unusedVariables false
namespace Go.Proofs.Ytcjnfdhdcoobgaa.Crc

/-- one bit more: width w, pattern p, state s, bit b -/
def nx (w p s b : Nat) : Nat := if s / 2 ^ (w - 1) = b then (2 * s) % 2 ^ w else (2 * s) % 2 ^ w ^^^ p

theorem nx_lt {w p s b : Nat} (hp : p < 2 ^ w) : nx w p s b < 2 ^ w := by
  unfold nx
  have h : (2 * s) % 2 ^ w < 2 ^ w := Nat.mod_lt _ (Nat.two_pow_pos w)
  split
  · exact h
  · exact Nat.xor_lt_two_pow h hp

theorem hi_lt {w s : Nat} (hw : 1 ≤ w) (hs : s < 2 ^ w) : s / 2 ^ (w - 1) < 2 := by
  rw [Nat.div_lt_iff_lt_mul (Nat.two_pow_pos _)]
  have : 2 * 2 ^ (w - 1) = 2 ^ w := by rw [← Nat.pow_succ']; congr 1; omega
  omega

theorem twice_xor (s s' w : Nat) : (2 * (s ^^^ s')) % 2 ^ w = (2 * s) % 2 ^ w ^^^ (2 * s') % 2 ^ w := by
  have h : 2 * (s ^^^ s') = (2 * s) ^^^ (2 * s') := by
    have := @Nat.shiftLeft_xor_distrib 1 s s'
    simp only [Nat.shiftLeft_eq, Nat.pow_one] at this
    rw [Nat.mul_comm 2, Nat.mul_comm 2, Nat.mul_comm 2]; exact this
  rw [h, Nat.xor_mod_two_pow]

theorem two_cases {x : Nat} (h : x < 2) : x = 0 ∨ x = 1 := by omega

theorem nx_xor {w p s s' b b' : Nat} (hw : 1 ≤ w) (hs : s < 2 ^ w) (hs' : s' < 2 ^ w) (hb : b < 2) (hb' : b' < 2) :
    nx w p (s ^^^ s') (b ^^^ b') = nx w p s b ^^^ nx w p s' b' := by
  unfold nx
  have h1 := hi_lt hw hs
  have h2 := hi_lt hw hs'
  rw [twice_xor, Nat.xor_div_two_pow]
  generalize s / 2 ^ (w - 1) = x at *
  generalize s' / 2 ^ (w - 1) = y at *
  generalize (2 * s) % 2 ^ w = A
  generalize (2 * s') % 2 ^ w = B
  have e : A ^^^ p ^^^ (B ^^^ p) = A ^^^ B := by
    rw [Nat.xor_comm B p, Nat.xor_assoc, ← Nat.xor_assoc p p B, Nat.xor_self, Nat.zero_xor]
  have e2 : A ^^^ p ^^^ B = A ^^^ B ^^^ p := by rw [Nat.xor_assoc, Nat.xor_comm p B, ← Nat.xor_assoc]
  rcases two_cases h1 with rfl | rfl <;> rcases two_cases h2 with rfl | rfl <;> rcases two_cases hb with rfl | rfl <;> rcases two_cases hb' with rfl | rfl <;>
    simp [e, e2, Nat.xor_assoc]

/-- n bits f i, f (i + 1), .. from a state on -/
def feed (w p : Nat) (f : Nat → Nat) : Nat → Nat → Nat → Nat
  | 0, _, s => s
  | n + 1, i, s => feed w p f n (i + 1) (nx w p s (f i))

theorem feed_lt {w p : Nat} {f : Nat → Nat} (hp : p < 2 ^ w) : ∀ (n i s : Nat), s < 2 ^ w → feed w p f n i s < 2 ^ w
  | 0, _, _, h => h
  | n + 1, i, s, _ => feed_lt hp n (i + 1) _ (nx_lt hp)

theorem feed_add {w p : Nat} {f : Nat → Nat} : ∀ (m n i s : Nat), feed w p f (m + n) i s = feed w p f n (i + m) (feed w p f m i s)
  | 0, n, i, s => by simp [feed]
  | m + 1, n, i, s => by
    rw [show m + 1 + n = (m + n) + 1 from by omega]
    simp only [feed]
    rw [feed_add m n (i + 1), show i + 1 + m = i + (m + 1) from by omega]

theorem feed_snoc {w p : Nat} {f : Nat → Nat} (n i s : Nat) : feed w p f (n + 1) i s = nx w p (feed w p f n i s) (f (i + n)) := by
  rw [feed_add n 1]; simp [feed]

theorem feed_congr {w p : Nat} {f g : Nat → Nat} : ∀ (n i s : Nat), (∀ j, i ≤ j → j < i + n → f j = g j) → feed w p f n i s = feed w p g n i s
  | 0, _, _, _ => rfl
  | n + 1, i, s, h => by
    simp only [feed]
    rw [h i (by omega) (by omega)]
    exact feed_congr n (i + 1) _ fun j h1 h2 => h j (by omega) (by omega)

/-- the place of the first bit is no matter -/
theorem feed_shift {w p : Nat} {f : Nat → Nat} : ∀ (n i d s : Nat), feed w p f n (i + d) s = feed w p (fun j => f (j + d)) n i s
  | 0, _, _, _ => rfl
  | n + 1, i, d, s => by
    simp only [feed]
    rw [show i + d + 1 = i + 1 + d from by omega]
    exact feed_shift n (i + 1) d _

theorem feed_xor {w p : Nat} {f g : Nat → Nat} (hw : 1 ≤ w) (hp : p < 2 ^ w) (hf : ∀ i, f i < 2) (hg : ∀ i, g i < 2) :
    ∀ (n i s s' : Nat), s < 2 ^ w → s' < 2 ^ w → feed w p (fun j => f j ^^^ g j) n i (s ^^^ s') = feed w p f n i s ^^^ feed w p g n i s'
  | 0, _, _, _, _, _ => rfl
  | n + 1, i, s, s', hs, hs' => by
    simp only [feed]
    rw [nx_xor hw hs hs' (hf i) (hg i)]
    exact feed_xor hw hp hf hg n (i + 1) _ _ (nx_lt hp) (nx_lt hp)

theorem nx_zero {w p : Nat} (hw : 1 ≤ w) : nx w p 0 0 = 0 := by unfold nx; simp

theorem feed_zero {w p : Nat} (hw : 1 ≤ w) : ∀ (n i : Nat), feed w p (fun _ => 0) n i 0 = 0
  | 0, _ => rfl
  | n + 1, i => by simp only [feed]; rw [nx_zero hw]; exact feed_zero hw n (i + 1)

theorem xor_eq_zero {a b : Nat} : a ^^^ b = 0 ↔ a = b := by
  constructor
  · intro h
    have : a ^^^ b ^^^ b = 0 ^^^ b := by rw [h]
    rw [Nat.xor_assoc, Nat.xor_self, Nat.xor_zero, Nat.zero_xor] at this
    exact this
  · rintro rfl; exact Nat.xor_self _

theorem nx_zero_inj {w p s : Nat} (hw : 1 ≤ w) (ho : p % 2 = 1) (hs : s < 2 ^ w) (h : nx w p s 0 = 0) : s = 0 := by
  have e2 : 2 * 2 ^ (w - 1) = 2 ^ w := by rw [← Nat.pow_succ']; congr 1; omega
  unfold nx at h
  split at h
  · rename_i h0
    have : s < 2 ^ (w - 1) := by
      rcases Nat.lt_or_ge s (2 ^ (w - 1)) with h | h
      · exact h
      · have := Nat.div_pos h (Nat.two_pow_pos _); omega
    rw [Nat.mod_eq_of_lt (by omega)] at h
    omega
  · have hx := xor_eq_zero.1 h
    have : (2 * s % 2 ^ w) % 2 = 0 := by
      rw [← e2, Nat.mod_mul_right_mod]; omega
    omega

theorem feed_zero_inj {w p : Nat} (hw : 1 ≤ w) (ho : p % 2 = 1) (hp : p < 2 ^ w) : ∀ (n i s : Nat), s < 2 ^ w → feed w p (fun _ => 0) n i s = 0 → s = 0
  | 0, _, _, _, h => h
  | n + 1, i, s, hs, h => nx_zero_inj hw ho hs (feed_zero_inj hw ho hp n (i + 1) _ (nx_lt hp) h)

/-- the bits of D, the highest first, from a state A on, against bits 0 from A xor D on -/
theorem feed_reg {w p : Nat} {f : Nat → Nat} (hw : 1 ≤ w) (hp : p < 2 ^ w) : ∀ (n i A B D : Nat), A < 2 ^ w → B < 2 ^ w → A ^^^ B = D →
    (∀ j, j < n → f (i + j) = (D * 2 ^ j % 2 ^ w) / 2 ^ (w - 1)) → feed w p f n i A ^^^ feed w p (fun _ => 0) n i B = D * 2 ^ n % 2 ^ w
  | 0, i, A, B, D, hA, hB, hD, _ => by
    simp only [feed]; rw [hD, Nat.pow_zero, Nat.mul_one, Nat.mod_eq_of_lt]
    rw [← hD]; exact Nat.xor_lt_two_pow hA hB
  | n + 1, i, A, B, D, hA, hB, hD, hf => by
    have hDl : D < 2 ^ w := by rw [← hD]; exact Nat.xor_lt_two_pow hA hB
    have h0 : f i = D / 2 ^ (w - 1) := by
      have := hf 0 (by omega)
      simpa [Nat.mod_eq_of_lt hDl] using this
    have hfi : f i < 2 := by rw [h0]; exact hi_lt hw hDl
    have hn : nx w p A (f i) ^^^ nx w p B 0 = 2 * D % 2 ^ w := by
      rw [← nx_xor hw hA hB hfi (by omega), Nat.xor_zero, hD]
      unfold nx
      rw [if_pos h0.symm]
    simp only [feed]
    rw [feed_reg hw hp n (i + 1) _ _ (2 * D % 2 ^ w) (nx_lt hp) (nx_lt hp) hn ?_]
    · rw [Nat.mod_mul_mod, Nat.pow_succ]; congr 1; rw [Nat.mul_comm 2 D, Nat.mul_assoc, Nat.mul_comm 2]
    · intro j hj
      have := hf (j + 1) (by omega)
      rw [show i + 1 + j = i + (j + 1) from by omega, this, Nat.mod_mul_mod, Nat.pow_succ]
      congr 2
      rw [Nat.mul_comm 2 D, Nat.mul_assoc, Nat.mul_comm 2]

/-- what the j-th bit of D is, D of w bits -/
theorem reg_bit {w D j : Nat} (hj : j < w) : (D * 2 ^ j % 2 ^ w) / 2 ^ (w - 1) = D / 2 ^ (w - 1 - j) % 2 := by
  have e : 2 ^ w = 2 ^ (w - 1) * 2 := by rw [← Nat.pow_succ]; congr 1; omega
  rw [e, Nat.mod_mul_right_div_self]
  have e3 : 2 ^ (w - 1) = 2 ^ (w - 1 - j) * 2 ^ j := by rw [← Nat.pow_add]; congr 1; omega
  rw [e3, Nat.mul_div_mul_right _ _ (Nat.two_pow_pos j)]

/-- w bits of T from a state s on end in 0 just where T is that state -/
theorem feed_tail {w p : Nat} {f : Nat → Nat} (hw : 1 ≤ w) (ho : p % 2 = 1) (hp : p < 2 ^ w) {i s T : Nat} (hs : s < 2 ^ w) (hT : T < 2 ^ w)
    (hf : ∀ j, j < w → f (i + j) = T / 2 ^ (w - 1 - j) % 2) : feed w p f w i s = 0 ↔ s = T := by
  have hx : s ^^^ T < 2 ^ w := Nat.xor_lt_two_pow hs hT
  have h := feed_reg (f := f) hw hp w i s (s ^^^ T) T hs hx (by rw [← Nat.xor_assoc, Nat.xor_self, Nat.zero_xor]) (fun j hj => by rw [hf j hj, reg_bit hj]) 
  rw [Nat.mul_mod_left] at h
  rw [xor_eq_zero.1 h]
  constructor
  · intro h0; exact xor_eq_zero.1 (feed_zero_inj hw ho hp w i _ hx h0)
  · rintro rfl; rw [Nat.xor_self]; exact feed_zero hw w i

/-- w bits of X put into the register 0 are X, w bits later -/
theorem feed_burst {w p : Nat} {f : Nat → Nat} (hw : 1 ≤ w) (hp : p < 2 ^ w) {i X : Nat} (hX : X < 2 ^ w)
    (hf : ∀ j, j < w → f (i + j) = X / 2 ^ (w - 1 - j) % 2) : feed w p f w i 0 = feed w p (fun _ => 0) w i X := by
  have h := feed_reg (f := f) hw hp w i 0 X X (Nat.two_pow_pos w) hX (Nat.zero_xor X) (fun j hj => by rw [hf j hj, reg_bit hj])
  rw [Nat.mul_mod_left] at h
  exact xor_eq_zero.1 h

end Go.Proofs.Ytcjnfdhdcoobgaa.Crc
