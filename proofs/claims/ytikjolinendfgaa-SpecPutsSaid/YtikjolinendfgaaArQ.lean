/- What was put is found: plain (arith). -/
import Derived.Test.YtikjolinendfgaaAr10
import Derived.Test.YtikjolinendfgaaAr6
set_option linter.unusedVariables false
set_option linter.unusedSimpArgs false
namespace Go.Proofs.Ytikjolinendfgaa.Ari.Q
open Go.RowKit Go.Proofs.YtikjolinendfgaaW.PrintWords Go.Proofs.YtikjolinendfgaaW.PrintLast Go.Proofs.YtikjolinendfgaaW.PrintMore

/-- bits as a number -/
def vB (l : List Bool) : Nat := l.foldl (fun n b => 2 * n + b.toNat) 0
theorem vB_snoc (l : List Bool) (b : Bool) : vB (l ++ [b]) = 2 * vB l + b.toNat := by simp [vB]
theorem vB_ones (l : List Bool) : ∀ o, vB (l ++ List.replicate o true) + 1 = (vB l + 1) * 2 ^ o
  | 0 => by simp
  | o + 1 => by
    rw [List.replicate_succ', ← List.append_assoc, vB_snoc, Nat.pow_succ]
    have := vB_ones l o
    show 2 * vB (l ++ List.replicate o true) + 1 + 1 = _
    rw [← Nat.mul_assoc, ← this]
    omega
theorem vB_zeros (l : List Bool) : ∀ o, vB (l ++ List.replicate o false) = vB l * 2 ^ o
  | 0 => by simp
  | o + 1 => by
    rw [List.replicate_succ', ← List.append_assoc, vB_snoc, Nat.pow_succ]
    have := vB_zeros l o
    show 2 * vB (l ++ List.replicate o false) + 0 = _
    rw [← Nat.mul_assoc, ← this]
    omega
theorem vB_tell0 (l : List Bool) (o : Nat) : vB (l ++ false :: List.replicate o (!false)) + 1 = 2 * (vB l * 2 ^ o) + 2 ^ o := by
  rw [show l ++ false :: List.replicate o (!false) = (l ++ [false]) ++ List.replicate o true from by simp, vB_ones, vB_snoc]
  show (2 * vB l + 0 + 1) * 2 ^ o = _
  rw [Nat.add_zero, Nat.add_mul, Nat.mul_assoc]
  omega
theorem vB_tell1 (l : List Bool) (o : Nat) : vB (l ++ true :: List.replicate o (!true)) = 2 * (vB l * 2 ^ o) + 2 ^ o := by
  rw [show l ++ true :: List.replicate o (!true) = (l ++ [true]) ++ List.replicate o false from by simp, vB_zeros, vB_snoc]
  show (2 * vB l + 1) * 2 ^ o = _
  rw [Nat.add_mul, Nat.mul_assoc]
  omega
/-- how many steps -/
def steps (s : St) : Nat := s.bits.length + s.ow
/-- where the range begins, exactly, a half of the window more -/
def XX (s : St) : Nat := 65536 * (vB s.bits * 2 ^ s.ow) + 32768 * 2 ^ s.ow + s.lo
theorem step_XX {s t : St} (h : wstep s = some t) : XX t + 32768 = 2 * XX s ∧ t.wd = 2 * s.wd ∧ steps t = steps s + 1 := by
  obtain ⟨lo, wd, o, l⟩ := s
  unfold wstep at h
  cases ho : offOf ⟨lo, wd, o, l⟩ with
  | none => rw [ho] at h; cases h
  | some off =>
    rw [ho] at h
    injection h with h
    rcases off_cases ho with ⟨rfl, k1⟩ | ⟨rfl, k1, k2⟩ | ⟨rfl, k1, k2, k3, k4⟩
    · have e : t = ⟨2 * lo, 2 * wd, 0, l ++ false :: List.replicate o (!false)⟩ := by
        rw [← h]; show dbl 0 (stepB 0 _) = _; unfold stepB; rw [if_neg (by decide)]; rfl
      subst e
      have e1 := vB_tell0 l o
      refine ⟨?_, rfl, ?_⟩
      · show 65536 * (vB (l ++ false :: List.replicate o (!false)) * 2 ^ 0) + 32768 * 2 ^ 0 + 2 * lo + 32768 = 2 * (65536 * (vB l * 2 ^ o) + 32768 * 2 ^ o + lo)
        generalize vB (l ++ false :: List.replicate o (!false)) = a at e1
        generalize vB l * 2 ^ o = b at e1 ⊢
        generalize 2 ^ o = p at e1 ⊢
        omega
      · show (l ++ false :: List.replicate o (!false)).length + 0 = l.length + o + 1
        simp; omega
    · change 32768 ≤ lo at k2
      have e : t = ⟨2 * (lo - 32768), 2 * wd, 0, l ++ true :: List.replicate o (!true)⟩ := by
        rw [← h]; show dbl 32768 (stepB 32768 _) = _; unfold stepB; rw [if_neg (by decide)]; rfl
      subst e
      have e1 := vB_tell1 l o
      refine ⟨?_, rfl, ?_⟩
      · show 65536 * (vB (l ++ true :: List.replicate o (!true)) * 2 ^ 0) + 32768 * 2 ^ 0 + 2 * (lo - 32768) + 32768 = 2 * (65536 * (vB l * 2 ^ o) + 32768 * 2 ^ o + lo)
        generalize vB (l ++ true :: List.replicate o (!true)) = a at e1
        generalize vB l * 2 ^ o = b at e1 ⊢
        generalize 2 ^ o = p at e1 ⊢
        omega
      · show (l ++ true :: List.replicate o (!true)).length + 0 = l.length + o + 1
        simp; omega
    · change 16384 ≤ lo at k3
      have e : t = ⟨2 * (lo - 16384), 2 * wd, o + 1, l⟩ := by
        rw [← h]; show dbl 16384 (stepB 16384 _) = _; unfold stepB; rw [if_pos rfl]; rfl
      subst e
      refine ⟨?_, rfl, ?_⟩
      · show 65536 * (vB l * 2 ^ (o + 1)) + 32768 * 2 ^ (o + 1) + 2 * (lo - 16384) + 32768 = 2 * (65536 * (vB l * 2 ^ o) + 32768 * 2 ^ o + lo)
        rw [show vB l * 2 ^ (o + 1) = 2 * (vB l * 2 ^ o) from by rw [Nat.pow_succ, ← Nat.mul_assoc, Nat.mul_comm], show 2 ^ (o + 1) = 2 * 2 ^ o from by rw [Nat.pow_succ, Nat.mul_comm]]
        generalize vB l * 2 ^ o = b
        generalize 2 ^ o = p
        omega
      · show l.length + (o + 1) = l.length + o + 1
        omega
/-- the bits that are read lie in the range -/
def Fit (B : Nat → Nat) (s : St) : Prop := XX s ≤ vN B 0 (steps s + 16) + 32768 ∧ vN B 0 (steps s + 16) + 32768 < XX s + s.wd
theorem fit_step {B : Nat → Nat} (hB : ∀ i, B i ≤ 1) {s t : St} (h : wstep s = some t) (hf : Fit B t) : Fit B s := by
  obtain ⟨h1, h2, h3⟩ := step_XX h
  obtain ⟨f1, f2⟩ := hf
  rw [h3] at f1 f2
  have e : vN B 0 (steps s + 1 + 16) = 2 * vN B 0 (steps s + 16) + B (0 + (steps s + 16)) := by
    rw [show steps s + 1 + 16 = (steps s + 16) + 1 from by omega]; rfl
  have hb := hB (0 + (steps s + 16))
  rw [e] at f1 f2
  unfold Fit
  omega
theorem fit_run {B : Nat → Nat} (hB : ∀ i, B i ≤ 1) : ∀ {k : Nat} {s t : St}, runN k s = some t → Fit B t → Fit B s
  | 0, s, t, h, hf => by simp only [runN, Option.some.injEq] at h; subst h; exact hf
  | k + 1, s, t, h, hf => by
    change (runN k s).bind wstep = some t at h
    cases hr : runN k s with
    | none => rw [hr] at h; cases h
    | some u =>
      rw [hr] at h
      exact fit_run hB hr (fit_step hB h hf)
theorem fit_cut {B : Nat → Nat} {t : List Int} (hg : Good t) {i : Nat} (hi : i < t.length) {s : St} (hs : Rest s) (hf : Fit B (cut t i s)) : Fit B s := by
  obtain ⟨-, -, h3, h4⟩ := cut_in hg hi hs
  obtain ⟨f1, f2⟩ := hf
  have e1 : XX (cut t i s) = XX s + s.wd * (t.take i).sum.toNat / t.sum.toNat := by
    show 65536 * (vB s.bits * 2 ^ s.ow) + 32768 * 2 ^ s.ow + (s.lo + _) = _
    unfold XX
    omega
  have e2 : (cut t i s).wd = s.wd * (t.take (i + 1)).sum.toNat / t.sum.toNat - s.wd * (t.take i).sum.toNat / t.sum.toNat := rfl
  have e3 : steps (cut t i s) = steps s := rfl
  rw [e1, e3] at f1
  rw [e1, e2, e3] at f2
  unfold Fit
  generalize s.wd * (t.take i).sum.toNat / t.sum.toNat = a at *
  generalize s.wd * (t.take (i + 1)).sum.toNat / t.sum.toNat = b at *
  omega
/-- the finder stands where the coder stood -/
def Dec (B : Nat → Nat) (s : St) (f : Fs) : Prop := f.lo = s.lo ∧ f.wd = s.wd ∧ f.rd = steps s + 16 ∧ f.va + XX s = vN B 0 (steps s + 16) + 32768 + s.lo
theorem dec_in {B : Nat → Nat} {s : St} {f : Fs} (h : Dec B s f) (hf : Fit B s) (hs : InW s) : InF f := by
  obtain ⟨h1, h2, h3, h4⟩ := h
  obtain ⟨f1, f2⟩ := hf
  obtain ⟨w1, w2⟩ := hs
  unfold InF
  omega
theorem dec_step {B : Nat → Nat} {s t : St} {f : Fs} {off : Nat} (h : wstep s = some t) (ho : offOf s = some off) (hd : Dec B s f) (hf : Fit B s) : Dec B t (nxF B 0 off f) := by
  obtain ⟨h1, h2, h3⟩ := step_XX h
  obtain ⟨d1, d2, d3, d4⟩ := hd
  have e : t.lo = 2 * (s.lo - off) := by
    unfold wstep at h
    rw [ho] at h
    injection h with h
    rw [← h]
    show 2 * ((stepB off s).lo - off) = _
    rw [(stepB_range off s).1]
  have e5 : vN B 0 (steps t + 16) = 2 * vN B 0 (steps s + 16) + B (0 + (steps s + 16)) := by
    rw [h3, show steps s + 1 + 16 = (steps s + 16) + 1 from by omega]; rfl
  have hoff : off ≤ s.lo := by rcases off_cases ho with ⟨rfl, -⟩ | ⟨rfl, -, k⟩ | ⟨rfl, -, -, k, -⟩ <;> omega
  refine ⟨?_, ?_, ?_, ?_⟩
  · show 2 * (f.lo - off) = _; rw [e, d1]
  · show 2 * f.wd = _; rw [h2, d2]
  · show f.rd + 1 = _; rw [h3, d3]
  · show 2 * (f.va - off) + B (0 + f.rd) + XX t = _
    rw [e5, e, d3]
    obtain ⟨f1, f2⟩ := hf
    generalize vN B 0 (steps s + 16) = Y at *
    generalize B (0 + (steps s + 16)) = b at *
    omega
theorem dec_run {B : Nat → Nat} (hB : ∀ i, B i ≤ 1) : ∀ {k : Nat} {s t : St} {f : Fs}, runN k s = some t → Fit B t → Dec B s f → ∃ f', runF B 0 k f = some f' ∧ Dec B t f'
  | 0, s, t, f, h, hf, hd => by simp only [runN, Option.some.injEq] at h; subst h; exact ⟨f, rfl, hd⟩
  | k + 1, s, t, f, h, hf, hd => by
    change (runN k s).bind wstep = some t at h
    cases hr : runN k s with
    | none => rw [hr] at h; cases h
    | some u =>
      rw [hr] at h
      change wstep u = some t at h
      have hfu := fit_step hB h hf
      obtain ⟨f1, h1, h2⟩ := dec_run hB hr hfu hd
      cases ho : offOf u with
      | none => unfold wstep at h; rw [ho] at h; cases h
      | some off =>
        refine ⟨nxF B 0 off f1, ?_, dec_step h ho h2 hfu⟩
        show (runF B 0 k f).bind _ = _
        rw [h1]
        show Option.map _ (offL f1.lo f1.wd) = _
        rw [h2.1, h2.2.1, show offL u.lo u.wd = some off from ho]
        rfl
/-- the finder finds the symbol that was put -/
theorem found {B : Nat → Nat} {t : List Int} (hg : Good t) {i : Nat} (hi : i < t.length) {s : St} {f : Fs} (hs : Rest s) (hd : Dec B s f) (hf : Fit B (cut t i s)) :
    (t.take i).sum.toNat ≤ keyF f t.sum.toNat ∧ keyF f t.sum.toNat < (t.take (i + 1)).sum.toNat ∧ Dec B (cut t i s) (narF f t.sum.toNat (t.take i).sum.toNat (t.take (i + 1)).sum.toNat) := by
  obtain ⟨d1, d2, d3, d4⟩ := hd
  obtain ⟨f1, f2⟩ := hf
  obtain ⟨-, -, h3, h4⟩ := cut_in hg hi hs
  have hN := total_in hg
  obtain ⟨N, hNe⟩ : ∃ N, N = t.sum.toNat := ⟨_, rfl⟩
  obtain ⟨F, hFe⟩ : ∃ F, F = (t.take i).sum.toNat := ⟨_, rfl⟩
  obtain ⟨T, hTe⟩ : ∃ T, T = (t.take (i + 1)).sum.toNat := ⟨_, rfl⟩
  have e1 : XX (cut t i s) = XX s + s.wd * F / N := by
    rw [hFe, hNe]
    show 65536 * (vB s.bits * 2 ^ s.ow) + 32768 * 2 ^ s.ow + (s.lo + _) = _
    unfold XX
    omega
  have e2 : (cut t i s).wd = s.wd * T / N - s.wd * F / N := by rw [hFe, hNe, hTe]; rfl
  have e3 : steps (cut t i s) = steps s := rfl
  have e4 : (cut t i s).lo = s.lo + s.wd * F / N := by rw [hFe, hNe]; rfl
  rw [← hNe, ← hFe, ← hTe] at h3
  rw [← hNe, ← hTe] at h4
  rw [← hNe, ← hFe, ← hTe]
  have hN1 : 1 ≤ N := by omega
  rw [e1, e3] at f1
  rw [e1, e2, e3] at f2
  obtain ⟨d, hde⟩ : ∃ d, d = f.va - f.lo := ⟨_, rfl⟩
  have hw0 : 0 < s.wd := by have := hs.1; omega
  obtain ⟨a, ha⟩ : ∃ a, a = s.wd * F / N := ⟨_, rfl⟩
  obtain ⟨b, hb⟩ : ∃ b, b = s.wd * T / N := ⟨_, rfl⟩
  rw [← ha] at f1 f2 h3
  rw [← hb] at f2 h3 h4
  have hva : f.lo ≤ f.va := by clear e1 e2 e3 e4 ha hb; omega
  have g1 : s.wd * F / N ≤ d := by rw [← ha]; clear e1 e2 e3 e4 ha hb; omega
  have g2 : d < s.wd * T / N := by rw [← hb]; clear e1 e2 e3 e4 ha hb; omega
  have k1 : s.wd * F < (d + 1) * N := by
    exact Nat.lt_mul_of_div_lt (Nat.lt_succ_of_le g1) (show 0 < N by omega)
  have k2 : (d + 1) * N ≤ s.wd * T := (Nat.le_div_iff_mul_le (show 0 < N by omega)).1 g2
  have hpos : 1 ≤ (d + 1) * N := Nat.mul_le_mul (show 1 ≤ d + 1 by omega) hN1
  refine ⟨?_, ?_, ?_, ?_, ?_, ?_⟩
  · unfold keyF
    rw [d2, ← hde]
    rw [Nat.le_div_iff_mul_le hw0, Nat.mul_comm]
    omega
  · unfold keyF
    rw [d2, ← hde, Nat.div_lt_iff_lt_mul hw0, Nat.mul_comm T]
    omega
  · show f.lo + f.wd * F / N = _; rw [e4, d1, d2]
  · show f.wd * T / N - f.wd * F / N = _; rw [e2, d2]
  · show f.rd = _; rw [e3]; exact d3
  · show f.va + _ = _
    rw [e1, e3, e4]
    omega
end Go.Proofs.Ytikjolinendfgaa.Ari.Q
