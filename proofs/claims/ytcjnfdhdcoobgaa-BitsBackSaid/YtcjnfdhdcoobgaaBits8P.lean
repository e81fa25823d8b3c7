/- What is written from both ends is read from both ends: plain lemmas. -/
import Derived.Test.YtcjnfdhdcoobgaaBits5b
set_option linter.unusedVariables false
namespace Go.Proofs.Ytcjnfdhdcoobgaa.Bit
open Go.RowKit Go.Proofs.YtcjnfdhdcoobgaaW.PrintWords Go.Proofs.YtcjnfdhdcoobgaaW.PrintLast Go.Proofs.YtcjnfdhdcoobgaaW.PrintMore Go.Proofs.Ytcjnfdhdcoobgaa.Byt

/-- what was done is read in turn, from (f, b) to (F, B) of N bits -/
def Reads (O : Nat → Bool) (N : Nat) : List ActV → Nat → Nat → Nat → Nat → Prop
  | [], f, b, F, B => f = F ∧ b = B
  | d :: r, f, b, F, B => 0 ≤ d.2.2 ∧ d.2.2 ≤ 32 ∧ (if d.1 then readB O N b d.2.2.toNat = d.2.1 ∧ Reads O N r f (b + d.2.2.toNat) F B else readF O f d.2.2.toNat = d.2.1 ∧ Reads O N r (f + d.2.2.toNat) b F B)
theorem readF_congr {O O' : Nat → Bool} (f : Nat) : ∀ k, (∀ i, f ≤ i → i < f + k → O i = O' i) → readF O f k = readF O' f k
  | 0, _ => rfl
  | k + 1, h => by simp only [readF]; rw [readF_congr f k fun i h1 h2 => h i h1 (by omega), h (f + k) (by omega) (by omega)]
theorem readB_congr {O O' : Nat → Bool} (N b : Nat) : ∀ k, b + k ≤ N → (∀ i, N ≤ i + b + k → i + b < N → O i = O' i) → readB O N b k = readB O' N b k
  | 0, _, _ => rfl
  | k + 1, hk, h => by simp only [readB]; rw [readB_congr N b k (by omega) fun i h1 h2 => h i (by omega) h2, h (N - 1 - (b + k)) (by omega) (by omega)]
theorem Reads.mono {O : Nat → Bool} {N : Nat} : ∀ {l : List ActV} {f b F B : Nat}, Reads O N l f b F B → f ≤ F ∧ b ≤ B
  | [], f, b, F, B, h => ⟨Nat.le_of_eq h.1, Nat.le_of_eq h.2⟩
  | d :: r, f, b, F, B, h => by
    obtain ⟨-, -, h⟩ := h
    split at h
    · have := Reads.mono h.2; omega
    · have := Reads.mono h.2; omega
/-- what lies between may turn -/
theorem Reads.congr {O O' : Nat → Bool} {N : Nat} : ∀ {l : List ActV} {f b F B : Nat}, F + B ≤ N → (∀ i, i < F → O i = O' i) → (∀ i, N ≤ i + B → i < N → O i = O' i) → Reads O N l f b F B → Reads O' N l f b F B
  | [], f, b, F, B, _, _, _, h => h
  | d :: r, f, b, F, B, hs, h1, h2, h => by
    obtain ⟨a, a', h⟩ := h
    refine ⟨a, a', ?_⟩
    split at h
    · rename_i hd
      rw [if_pos hd]
      have := Reads.mono h.2
      exact ⟨(readB_congr N b _ (by omega) fun i g1 g2 => (h2 i (by omega) (by omega))).symm.trans h.1, Reads.congr hs h1 h2 h.2⟩
    · rename_i hd
      rw [if_neg hd]
      have := Reads.mono h.2
      exact ⟨(readF_congr f _ fun i g1 g2 => h1 i (by omega)).symm.trans h.1, Reads.congr hs h1 h2 h.2⟩
theorem Reads.snoc {O : Nat → Bool} {N : Nat} (e : ActV) {F' B' : Nat} : ∀ {l : List ActV} {f b F B : Nat}, Reads O N l f b F B → Reads O N [e] F B F' B' → Reads O N (l ++ [e]) f b F' B'
  | [], f, b, F, B, h, k => by obtain ⟨rfl, rfl⟩ := h; exact k
  | d :: r, f, b, F, B, h, k => by
    obtain ⟨a, a', h⟩ := h
    refine ⟨a, a', ?_⟩
    show if d.1 = true then _ else _
    split at h
    · rename_i hd; rw [if_pos hd]; exact ⟨h.1, Reads.snoc e h.2 k⟩
    · rename_i hd; rw [if_neg hd]; exact ⟨h.1, Reads.snoc e h.2 k⟩
theorem readF_putF (O : Nat → Bool) (F k v : Nat) : ∀ j, j ≤ k → readF (putF O F k k v) F j = v / 2 ^ (k - j) % 2 ^ j
  | 0, _ => by simp [readF, Nat.mod_one]
  | j + 1, h => by
    simp only [readF]
    rw [readF_putF O F k v j (by omega)]
    have e : putF O F k k v (F + j) = v.testBit (k - (j + 1)) := by unfold putF; rw [if_pos (by omega)]; congr 1; omega
    rw [e, ← bit_div, show k - j = k - (j + 1) + 1 from by omega]
    generalize k - (j + 1) = m
    rw [Nat.pow_succ 2 m, ← Nat.div_div_eq_div_mul]
    generalize v / 2 ^ m = q
    rw [Nat.pow_succ 2 j, Nat.mul_comm (2 ^ j) 2, Nat.mod_mul]
    omega
theorem readB_putB (O : Nat → Bool) (N B k v : Nat) (hk : B + k ≤ N) : ∀ j, j ≤ k → readB (putB O N B k v) N B j = v % 2 ^ j
  | 0, _ => by simp [readB, Nat.mod_one]
  | j + 1, h => by
    simp only [readB]
    rw [readB_putB O N B k v hk j (by omega)]
    have e : putB O N B k v (N - 1 - (B + j)) = v.testBit j := by unfold putB; rw [if_pos (by omega)]; congr 1; omega
    rw [e, ← bit_div, Nat.pow_succ 2 j, Nat.mod_mul, Nat.mul_comm]
theorem Reads.front {O : Nat → Bool} {N F B v k : Nat} (hk : k ≤ 32) (hv : v < 2 ^ k) : Reads (putF O F k k v) N [(false, v, (k : Int))] F B (F + k) B := by
  refine ⟨by show (0 : Int) ≤ k; omega, by show (k : Int) ≤ 32; omega, ?_⟩
  show readF _ F k = v ∧ _
  rw [readF_putF O F k v k (Nat.le_refl _), Nat.sub_self, Nat.pow_zero, Nat.div_one, Nat.mod_eq_of_lt hv]
  exact ⟨rfl, rfl, rfl⟩
theorem Reads.back {O : Nat → Bool} {N F B v k : Nat} (hk : k ≤ 32) (hv : v < 2 ^ k) (hs : B + k ≤ N) : Reads (putB O N B k v) N [(true, v, (k : Int))] F B F (B + k) := by
  refine ⟨by show (0 : Int) ≤ k; omega, by show (k : Int) ≤ 32; omega, ?_⟩
  show readB _ N B k = v ∧ _
  rw [readB_putB O N B k v hs k (Nat.le_refl _), Nat.mod_eq_of_lt hv]
  exact ⟨rfl, rfl, rfl⟩
theorem step_front {O : Nat → Bool} {N F B v q : Nat} {dn : List ActV} (h : Reads O N dn 0 0 F B) (hk : q ≤ 32) (hv : v < 2 ^ q) (hs : F + q + B ≤ N) : Reads (putF O F q q v) N (dn ++ [(false, v, (q : Int))]) 0 0 (F + q) B :=
  Reads.snoc _ (Reads.congr (by omega) (fun i hi => by unfold putF; rw [if_neg (by omega)]) (fun i h1 h2 => by unfold putF; rw [if_neg (by omega)]) h) (Reads.front hk hv)
theorem step_back {O : Nat → Bool} {N F B v q : Nat} {dn : List ActV} (h : Reads O N dn 0 0 F B) (hk : q ≤ 32) (hv : v < 2 ^ q) (hs : F + B + q ≤ N) : Reads (putB O N B q v) N (dn ++ [(true, v, (q : Int))]) 0 0 F (B + q) :=
  Reads.snoc _ (Reads.congr (by omega) (fun i hi => by unfold putB; rw [if_neg (by omega)]) (fun i h1 h2 => by unfold putB; rw [if_neg (by omega)]) h) (Reads.back hk hv (by omega))
end Go.Proofs.Ytcjnfdhdcoobgaa.Bit
