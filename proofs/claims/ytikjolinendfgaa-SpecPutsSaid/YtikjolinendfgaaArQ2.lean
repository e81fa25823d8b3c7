/- What was put, one symbol behind the other, is found: plain (arith). -/
import Derived.Test.YtikjolinendfgaaArQ
set_option linter.unusedVariables false
set_option linter.unusedSimpArgs false
namespace Go.Proofs.Ytikjolinendfgaa.Ari.Q
open Go.RowKit Go.Proofs.YtikjolinendfgaaW.PrintWords Go.Proofs.YtikjolinendfgaaW.PrintLast Go.Proofs.YtikjolinendfgaaW.PrintMore

theorem vN_split (B : Nat → Nat) (hB : ∀ i, B i ≤ 1) (fr n : Nat) : ∀ j, vN B fr n * 2 ^ j ≤ vN B fr (n + j) ∧ vN B fr (n + j) < (vN B fr n + 1) * 2 ^ j
  | 0 => by simp
  | j + 1 => by
    obtain ⟨h1, h2⟩ := vN_split B hB fr n j
    have hb := hB (fr + (n + j))
    rw [show vN B fr (n + (j + 1)) = 2 * vN B fr (n + j) + B (fr + (n + j)) from rfl, Nat.pow_succ, ← Nat.mul_assoc, ← Nat.mul_assoc]
    generalize vN B fr n * 2 ^ j = a at *
    generalize (vN B fr n + 1) * 2 ^ j = c at *
    omega
theorem vN_bits {B : Nat → Nat} (l : List Bool) (h : ∀ i, i < l.length → B i = (l.getD i false).toNat) : ∀ k, k ≤ l.length → vN B 0 k = vB (l.take k)
  | 0, _ => by simp [vN, vB]
  | k + 1, hk => by
    have e : l.take (k + 1) = l.take k ++ [l.getD k false] := by
      rw [List.take_succ_eq_append_getElem (show k < l.length by omega)]
      simp [List.getD_eq_getElem?_getD, List.getElem?_eq_getElem (show k < l.length by omega)]
    rw [e, vB_snoc, ← vN_bits l h k (by omega), ← h k (by omega)]
    show 2 * vN B 0 k + B (0 + k) = _
    rw [Nat.zero_add]
theorem fit_end {B : Nat → Nat} (hB : ∀ i, B i ≤ 1) {s : St} (hs : Rest s) (ho : offOf s = none) (h : ∀ i, i < (fin s).bits.length → B i = ((fin s).bits.getD i false).toNat) : Fit B s := by
  have hv := vN_bits (fin s).bits h _ (Nat.le_refl _)
  rw [List.take_length] at hv
  obtain ⟨lo, wd, o, l⟩ := s
  obtain ⟨hs1, hs2⟩ := hs
  change 16384 < wd at hs1
  change lo + wd ≤ 65536 at hs2
  have hc1 : ¬ lo + wd ≤ 32768 := fun h => by
    rw [show offOf ⟨lo, wd, o, l⟩ = some 0 from if_pos h] at ho; cases ho
  have hc2 : ¬ 32768 ≤ lo := fun h => by
    rw [show offOf ⟨lo, wd, o, l⟩ = some 32768 from (if_neg hc1).trans (if_pos h)] at ho; cases ho
  have hc3 : ¬ (16384 ≤ lo ∧ lo + wd ≤ 49152) := fun h => by
    rw [show offOf ⟨lo, wd, o, l⟩ = some 16384 from (if_neg hc1).trans ((if_neg hc2).trans (if_pos h))] at ho; cases ho
  have hlen : (fin ⟨lo, wd, o, l⟩).bits.length = l.length + o + 2 := by unfold fin tellB; simp; omega
  rw [hlen] at hv
  have hsp := vN_split B hB 0 (l.length + o + 2) 14
  rw [hv] at hsp
  have e2 : vB l * 2 ^ (o + 1) = 2 * (vB l * 2 ^ o) := by rw [Nat.pow_succ, ← Nat.mul_assoc, Nat.mul_comm]
  have e3 : 2 ^ (o + 1) = 2 * 2 ^ o := by rw [Nat.pow_succ, Nat.mul_comm]
  show 65536 * (vB l * 2 ^ o) + 32768 * 2 ^ o + lo ≤ vN B 0 (l.length + o + 16) + 32768 ∧ vN B 0 (l.length + o + 16) + 32768 < 65536 * (vB l * 2 ^ o) + 32768 * 2 ^ o + lo + wd
  rw [show l.length + o + 16 = l.length + o + 2 + 14 from by omega]
  obtain ⟨s1, s2⟩ := hsp
  generalize vN B 0 (l.length + o + 2 + 14) = Y at *
  by_cases hlo : lo < 16384
  · have e0 : (fin ⟨lo, wd, o, l⟩).bits = l ++ false :: List.replicate (o + 1) (!false) := by
      unfold fin tellB
      rw [show decide (16384 ≤ (St.mk lo wd o l).lo) = false from decide_eq_false (by show ¬ 16384 ≤ lo; omega)]
    have e1 := vB_tell0 l (o + 1)
    rw [← e0, e2, e3] at e1
    rw [e1] at s2
    generalize vB (fin ⟨lo, wd, o, l⟩).bits = a at *
    generalize vB l * 2 ^ o = b at *
    generalize 2 ^ o = p at *
    have s1' : a * 16384 ≤ Y := s1
    have s2' : Y < (2 * (2 * b) + 2 * p) * 16384 := s2
    clear s1 s2 h ho hv hB e0
    omega
  · have e0 : (fin ⟨lo, wd, o, l⟩).bits = l ++ true :: List.replicate (o + 1) (!true) := by
      unfold fin tellB
      rw [show decide (16384 ≤ (St.mk lo wd o l).lo) = true from decide_eq_true (by show 16384 ≤ lo; omega)]
    have e1 := vB_tell1 l (o + 1)
    rw [← e0, e2, e3] at e1
    generalize vB (fin ⟨lo, wd, o, l⟩).bits = a at *
    generalize vB l * 2 ^ o = b at *
    generalize 2 ^ o = p at *
    have s1' : a * 16384 ≤ Y := s1
    have s2' : Y < (a + 1) * 16384 := s2
    clear s1 s2 h ho hv hB e0
    omega
/-- symbols put one behind the other -/
def Enc : List (List Int × Nat) → St → St → Prop
  | [], s, s' => s = s'
  | (t, i) :: ds, s, s' => Good t ∧ i < t.length ∧ ∃ k u, Wid k (cut t i s) u ∧ Enc ds u s'
theorem Enc.snoc {t : List Int} {i k : Nat} {u : St} (hg : Good t) (hi : i < t.length) : ∀ {ds : List (List Int × Nat)} {s s' : St}, Enc ds s s' → Wid k (cut t i s') u → Enc (ds ++ [(t, i)]) s u
  | [], s, s', h, hw => by
    obtain rfl : s = s' := h
    exact ⟨hg, hi, k, u, hw, rfl⟩
  | (t', i') :: ds, s, s', h, hw => by
    obtain ⟨h1, h2, k', u', h3, h4⟩ := h
    exact ⟨h1, h2, k', u', h3, Enc.snoc hg hi h4 hw⟩
theorem Enc.fit {B : Nat → Nat} (hB : ∀ i, B i ≤ 1) : ∀ {ds : List (List Int × Nat)} {s s' : St}, Enc ds s s' → Rest s → Fit B s' → Fit B s
  | [], s, s', h, hr, hf => by
    obtain rfl : s = s' := h
    exact hf
  | (t, i) :: ds, s, s', h, hr, hf => by
    obtain ⟨h1, h2, k, u, h3, h4⟩ := h
    have hc := cut_in h1 h2 hr
    have hfu := Enc.fit hB h4 (Wid.rest h3 hc.1) hf
    exact fit_cut h1 h2 hr (fit_run hB h3.1 hfu)
theorem run_steps : ∀ {k : Nat} {s t : St}, runN k s = some t → steps t = steps s + k
  | 0, s, t, h => by simp only [runN, Option.some.injEq] at h; subst h; rfl
  | k + 1, s, t, h => by
    change (runN k s).bind wstep = some t at h
    cases hr : runN k s with
    | none => rw [hr] at h; cases h
    | some u =>
      rw [hr] at h
      have h1 := run_steps hr
      have h2 := (step_XX (show wstep u = some t from h)).2.2
      omega
theorem runF_first (B : Nat → Nat) (fr : Nat) : ∀ (k : Nat) (s : Fs), runF B fr (k + 1) s = ((offL s.lo s.wd).map fun off => nxF B fr off s).bind (runF B fr k)
  | 0, s => by
    show Option.map (fun off => nxF B fr off s) (offL s.lo s.wd) = _
    cases h : offL s.lo s.wd with
    | none => rfl
    | some o => rfl
  | k + 1, s => by
    show (runF B fr (k + 1) s).bind _ = _
    rw [runF_first B fr k s, Option.bind_assoc]
    rfl
theorem runF_det (B : Nat → Nat) (fr : Nat) : ∀ {k k' : Nat} {s t t' : Fs}, runF B fr k s = some t → offL t.lo t.wd = none → runF B fr k' s = some t' → offL t'.lo t'.wd = none → t = t'
  | 0, 0, s, t, t', h1, h2, h3, h4 => by
    have e1 : s = t := Option.some.inj h1
    have e2 : s = t' := Option.some.inj h3
    rw [← e1, ← e2]
  | 0, k' + 1, s, t, t', h1, h2, h3, h4 => by
    exfalso
    have e1 : s = t := Option.some.inj h1
    subst e1
    rw [runF_first, h2] at h3
    cases h3
  | k + 1, 0, s, t, t', h1, h2, h3, h4 => by
    exfalso
    have e1 : s = t' := Option.some.inj h3
    subst e1
    rw [runF_first, h4] at h1
    cases h1
  | k + 1, k' + 1, s, t, t', h1, h2, h3, h4 => by
    rw [runF_first] at h1 h3
    cases ho : offL s.lo s.wd with
    | none => rw [ho] at h1; cases h1
    | some off =>
      rw [ho] at h1 h3
      exact runF_det B fr (k := k) (k' := k') h1 h2 h3 h4
theorem take_lt {t : List Int} (hg : Good t) {i j : Nat} (hij : i < j) (hj : j ≤ t.length) : (t.take (i + 1)).sum ≤ (t.take j).sum := by
  have e : (t.take j).take (i + 1) = t.take (i + 1) := by rw [List.take_take]; congr 1; omega
  rw [← e]
  exact (sum_take_le (t := t.take j) (fun x hx => hg.2.2.1 x (List.mem_of_mem_take hx)) (i + 1)).2
/-- what Get finds at the next symbol -/
theorem get_found {f : Nat} {ep : Option Addr} {B : Nat → Nat} {w0 : World} {fs : Fs} {t : List Int} {i i' : Nat} {w' : World} {ds : List (List Int × Nat)} {s s' : St} (hB : ∀ i, B i ≤ 1)
    (h : Got f ep 0 B w0 fs t i' w') (he : Enc ((t, i) :: ds) s s') (hr : Rest s) (hd : Dec B s fs) (hf : Fit B s') :
    i' = i ∧ ∃ u f', Enc ds u s' ∧ Rest u ∧ Dec B u f' ∧ steps u ≤ steps s + 14 ∧ FS f ep 0 B w0 f' w' := by
  obtain ⟨g1, g2, g3, k', f1, g4, g5, g6⟩ := h
  obtain ⟨hg, hi, k, u, h3, h4⟩ := he
  have hc := cut_in hg hi hr
  have hfu := Enc.fit hB h4 (Wid.rest h3 hc.1) hf
  have hfc := fit_run hB h3.1 hfu
  obtain ⟨m1, m2, m3⟩ := found hg hi hr hd hfc
  have e : i' = i := by
    rcases Nat.lt_trichotomy i' i with h | h | h
    · exfalso; have := take_lt hg h (by omega); omega
    · exact h
    · exfalso; have := take_lt hg h (by omega); omega
  subst e
  obtain ⟨f2, r1, r2⟩ := dec_run hB h3.1 hfu m3
  have hou : offL f2.lo f2.wd = none := by rw [r2.1, r2.2.1]; exact h3.2
  obtain rfl := runF_det B 0 g4 g5 r1 hou
  have hst := run_steps h3.1
  have hk := Wid.few h3 hc.1 hc.2.1
  have e3 : steps (cut t i' s) = steps s := rfl
  exact ⟨rfl, u, f1, h4, Wid.rest h3 hc.1, r2, by omega, g6⟩
end Go.Proofs.Ytikjolinendfgaa.Ari.Q
