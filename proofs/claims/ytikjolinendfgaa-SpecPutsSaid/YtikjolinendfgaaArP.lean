/- A coder of ranges in plain numbers: a range, what is owed, the bits that were told. -/
import Derived.Test.YtikjolinendfgaaMore
import Derived.Test.YtikjolinendfgaaBitsP
set_option linter.unusedVariables false
set_option linter.unusedSimpArgs false
namespace Go.Proofs.Ytikjolinendfgaa.Ari
open Go.RowKit Go.Proofs.YtikjolinendfgaaW.PrintWords Go.Proofs.YtikjolinendfgaaW.PrintLast Go.Proofs.YtikjolinendfgaaW.PrintMore

/-- is it a table? -/
def Good (t : List Int) : Prop := 2 ≤ t.length ∧ t.length ≤ 32 ∧ (∀ x ∈ t, 1 ≤ x) ∧ t.sum ≤ 4096
instance (t : List Int) : Decidable (Good t) := by unfold Good; infer_instance
def totalZ (t : List Int) : Int := if Good t then t.sum else 0
theorem sum_pos {t : List Int} (h : ∀ x ∈ t, 1 ≤ x) : (t.length : Int) ≤ t.sum := by
  induction t with
  | nil => simp
  | cons x t ih =>
    have h1 := h x (by simp)
    have h2 := ih fun y hy => h y (List.mem_cons_of_mem _ hy)
    simp only [List.sum_cons, List.length_cons]
    omega
theorem sum_take_le {t : List Int} (h : ∀ x ∈ t, 1 ≤ x) (k : Nat) : 0 ≤ (t.take k).sum ∧ (t.take k).sum ≤ t.sum := by
  have e : t.sum = (t.take k).sum + (t.drop k).sum := by rw [← List.sum_append, List.take_append_drop]
  have h1 := sum_pos (t := t.take k) fun x hx => h x (List.mem_of_mem_take hx)
  have h2 := sum_pos (t := t.drop k) fun x hx => h x (List.mem_of_mem_drop hx)
  omega
theorem sum_take_succ (t : List Int) (k : Nat) (h : k < t.length) : (t.take (k + 1)).sum = (t.take k).sum + rd t (k : Int) := by
  rw [List.take_succ_eq_append_getElem h, List.sum_append]
  simp [rd, List.getD_eq_getElem?_getD, List.getElem?_eq_getElem h]
theorem total_in {t : List Int} (h : Good t) : totalZ t = t.sum ∧ 2 ≤ t.sum ∧ t.sum ≤ 4096 := by
  refine ⟨if_pos h, ?_, h.2.2.2⟩
  have := sum_pos h.2.2.1
  have := h.1
  omega
theorem total_not {t : List Int} (h : ¬ Good t) : totalZ t = 0 := if_neg h
theorem total_zero {t : List Int} : totalZ t = 0 ↔ ¬ Good t := by
  constructor
  · intro h hg
    have := total_in hg
    omega
  · exact total_not

/-- a range from lo on, so wide; what is owed; the bits that were told -/
structure St where
  lo : Nat
  wd : Nat
  ow : Nat
  bits : List Bool
def tellB (b : Bool) (s : St) : St := { s with bits := s.bits ++ b :: List.replicate s.ow (!b), ow := 0 }
/-- what is taken off, if it is wide enough: nothing more -/
def offOf (s : St) : Option Nat := if s.lo + s.wd ≤ 32768 then some 0 else if 32768 ≤ s.lo then some 32768 else if 16384 ≤ s.lo ∧ s.lo + s.wd ≤ 49152 then some 16384 else none
/-- what a step tells -/
def stepB (off : Nat) (s : St) : St := if off = 16384 then { s with ow := s.ow + 1 } else tellB (decide (off = 32768)) s
def dbl (off : Nat) (s : St) : St := { s with lo := 2 * (s.lo - off), wd := 2 * s.wd }
def wstep (s : St) : Option St := (offOf s).map fun off => dbl off (stepB off s)
def runN : Nat → St → Option St
  | 0, s => some s
  | k + 1, s => (runN k s).bind wstep
/-- widened till nothing more is taken off -/
def Wid (k : Nat) (s t : St) : Prop := runN k s = some t ∧ offOf t = none
theorem runN_first : ∀ (k : Nat) (s : St), runN (k + 1) s = (wstep s).bind (runN k)
  | 0, s => by show (some s).bind wstep = _; cases h : wstep s <;> simp [h, runN]
  | k + 1, s => by
    show (runN (k + 1) s).bind wstep = _
    rw [runN_first k s, Option.bind_assoc]
    rfl
theorem Wid.det : ∀ {k k' : Nat} {s t t' : St}, Wid k s t → Wid k' s t' → k = k' ∧ t = t'
  | 0, 0, s, t, t', h, h' => ⟨rfl, by have h1 := h.1; have h2 := h'.1; simp only [runN, Option.some.injEq] at h1 h2; rw [← h1, h2]⟩
  | 0, k' + 1, s, t, t', h, h' => by
    exfalso
    have h1 := h.1
    simp only [runN, Option.some.injEq] at h1
    subst h1
    have h2 := h'.1
    rw [runN_first] at h2
    unfold wstep at h2
    rw [h.2] at h2
    cases h2
  | k + 1, 0, s, t, t', h, h' => by
    exfalso
    have h1 := h'.1
    simp only [runN, Option.some.injEq] at h1
    subst h1
    have h2 := h.1
    rw [runN_first] at h2
    unfold wstep at h2
    rw [h'.2] at h2
    cases h2
  | k + 1, k' + 1, s, t, t', h, h' => by
    have h1 := h.1
    have h2 := h'.1
    rw [runN_first] at h1 h2
    cases hw : wstep s with
    | none => rw [hw] at h1; cases h1
    | some u =>
      rw [hw] at h1 h2
      obtain ⟨e1, e2⟩ := Wid.det (k := k) (k' := k') (s := u) ⟨h1, h.2⟩ ⟨h2, h'.2⟩
      exact ⟨by rw [e1], e2⟩
/-- a range in the whole -/
def InW (s : St) : Prop := 1 ≤ s.wd ∧ s.lo + s.wd ≤ 65536
theorem off_cases {s : St} {off : Nat} (h : offOf s = some off) : (off = 0 ∧ s.lo + s.wd ≤ 32768) ∨ (off = 32768 ∧ ¬ s.lo + s.wd ≤ 32768 ∧ 32768 ≤ s.lo) ∨ (off = 16384 ∧ ¬ s.lo + s.wd ≤ 32768 ∧ ¬ 32768 ≤ s.lo ∧ 16384 ≤ s.lo ∧ s.lo + s.wd ≤ 49152) := by
  unfold offOf at h
  split at h
  · injection h with h; exact .inl ⟨h.symm, by assumption⟩
  · split at h
    · injection h with h; exact .inr (.inl ⟨h.symm, by assumption, by assumption⟩)
    · split at h
      · rename_i h3; injection h with h; exact .inr (.inr ⟨h.symm, by assumption, by assumption, h3.1, h3.2⟩)
      · cases h
theorem stepB_range (off : Nat) (s : St) : (stepB off s).lo = s.lo ∧ (stepB off s).wd = s.wd := by unfold stepB tellB; split <;> exact ⟨rfl, rfl⟩
theorem wstep_in {s t : St} (h : wstep s = some t) (hi : InW s) : InW t ∧ t.wd = 2 * s.wd ∧ s.wd ≤ 32768 := by
  unfold wstep at h
  cases ho : offOf s with
  | none => rw [ho] at h; cases h
  | some off =>
    rw [ho] at h
    injection h with h
    obtain ⟨h1, h2⟩ := stepB_range off s
    obtain ⟨i1, i2⟩ := hi
    have e1 : t.lo = 2 * (s.lo - off) := by rw [← h]; show 2 * ((stepB off s).lo - off) = _; rw [h1]
    have e2 : t.wd = 2 * s.wd := by rw [← h]; show 2 * (stepB off s).wd = _; rw [h2]
    rcases off_cases ho with ⟨rfl, k1⟩ | ⟨rfl, k1, k2⟩ | ⟨rfl, k1, k2, k3, k4⟩
    · exact ⟨⟨by omega, by omega⟩, e2, by omega⟩
    · exact ⟨⟨by omega, by omega⟩, e2, by omega⟩
    · exact ⟨⟨by omega, by omega⟩, e2, by omega⟩
theorem off_none {s : St} (h : offOf s = none) (hi : InW s) : 16384 < s.wd := by
  unfold offOf at h
  split at h
  · cases h
  · split at h
    · cases h
    · split at h
      · cases h
      · rename_i h1 h2 h3
        by_cases h4 : 16384 ≤ s.lo
        · have : ¬ s.lo + s.wd ≤ 49152 := fun h => h3 ⟨h4, h⟩
          have := hi.2
          omega
        · omega
theorem runN_in : ∀ {k : Nat} {s t : St}, runN k s = some t → InW s → InW t ∧ t.wd = 2 ^ k * s.wd
  | 0, s, t, h, hi => by simp only [runN, Option.some.injEq] at h; subst h; exact ⟨hi, by omega⟩
  | k + 1, s, t, h, hi => by
    change (runN k s).bind wstep = some t at h
    cases hr : runN k s with
    | none => rw [hr] at h; cases h
    | some u =>
      rw [hr] at h
      obtain ⟨h1, h2⟩ := runN_in hr hi
      obtain ⟨h3, h4, h5⟩ := wstep_in h h1
      refine ⟨h3, ?_⟩
      rw [h4, h2, Nat.pow_succ, Nat.mul_comm (2 ^ k) 2, Nat.mul_assoc]
/-- at rest -/
def Rest (s : St) : Prop := 16384 < s.wd ∧ s.lo + s.wd ≤ 65536
theorem Wid.rest {k : Nat} {s t : St} (h : Wid k s t) (hi : InW s) : Rest t := ⟨off_none h.2 (runN_in h.1 hi).1, (runN_in h.1 hi).1.2⟩
theorem Wid.few {k : Nat} {s t : St} (h : Wid k s t) (hi : InW s) (h4 : 4 ≤ s.wd) : k ≤ 14 := by
  rcases Nat.lt_or_ge 14 k with hk | hk
  · exfalso
    obtain ⟨h1, h2⟩ := runN_in h.1 hi
    have h3 : 2 ^ 15 ≤ 2 ^ k := Nat.pow_le_pow_right (by decide) hk
    have h5 : 2 ^ 15 * 4 ≤ 2 ^ k * s.wd := Nat.mul_le_mul h3 h4
    have h6 := h1.2
    rw [h2] at h6
    omega
  · exact hk
/-- narrowed to a symbol -/
def narrow (s : St) (n a b : Nat) : St := { s with lo := s.lo + s.wd * a / n, wd := s.wd * b / n - s.wd * a / n }
theorem narrow_in {s : St} {n a b : Nat} (hs : Rest s) (hn : 1 ≤ n ∧ n ≤ 4096) (hab : a < b) (hb : b ≤ n) : InW (narrow s n a b) ∧ 4 ≤ (narrow s n a b).wd ∧ s.wd * a / n ≤ s.wd * b / n ∧ s.wd * b / n ≤ s.wd := by
  obtain ⟨h1, h2⟩ := hs
  have e1 : s.wd * b / n ≤ s.wd := by
    have : s.wd * b ≤ s.wd * n := Nat.mul_le_mul_left _ hb
    exact Nat.div_le_of_le_mul (by rw [Nat.mul_comm n]; exact this)
  have e2 : s.wd * a / n + 4 ≤ s.wd * b / n := by
    rw [Nat.le_div_iff_mul_le (by omega)]
    have e3 : s.wd * a / n * n ≤ s.wd * a := Nat.div_mul_le_self _ _
    have e4 : s.wd * a + s.wd ≤ s.wd * b := by rw [← Nat.mul_succ]; exact Nat.mul_le_mul_left _ hab
    rw [Nat.add_mul]
    omega
  refine ⟨⟨?_, ?_⟩, ?_, by omega, e1⟩
  · show 1 ≤ s.wd * b / n - s.wd * a / n; omega
  · show s.lo + s.wd * a / n + (s.wd * b / n - s.wd * a / n) ≤ 65536; omega
  · show 4 ≤ s.wd * b / n - s.wd * a / n; omega
end Go.Proofs.Ytikjolinendfgaa.Ari
