/- Both finders find the same: plain (arith). -/
import Derived.Test.YtikjolinendfgaaAr14
import Derived.Test.YtikjolinendfgaaAr10
set_option linter.unusedVariables false
set_option linter.unusedSimpArgs false
namespace Go.Proofs.Ytikjolinendfgaa.Ari
open Go.RowKit Go.Proofs.YtikjolinendfgaaW.PrintWords Go.Proofs.YtikjolinendfgaaW.PrintLast Go.Proofs.YtikjolinendfgaaW.PrintMore Go.Proofs.Ytikjolinendfgaa.Bit

theorem runF_first (B : Nat → Nat) (fr : Nat) : ∀ (k : Nat) (s : Fs), runF B fr (k + 1) s = ((offL s.lo s.wd).map fun off => nxF B fr off s).bind (runF B fr k)
  | 0, s => by
    show Option.map (fun off => nxF B fr off s) (offL s.lo s.wd) = _
    cases h : offL s.lo s.wd with
    | none => rfl
    | some o => rfl
  | k + 1, s => by
    show (runF B fr (k + 1) s).bind _ = _
    rw [runF_first B fr k s, Option.bind_assoc]
    rfl
theorem runF_det (B : Nat → Nat) (fr : Nat) : ∀ {k k' : Nat} {s t t' : Fs}, runF B fr k s = some t → offL t.lo t.wd = none → runF B fr k' s = some t' → offL t'.lo t'.wd = none → t = t'
  | 0, 0, s, t, t', h1, h2, h3, h4 => by
    have e1 : s = t := Option.some.inj h1
    have e2 : s = t' := Option.some.inj h3
    rw [← e1, ← e2]
  | 0, k' + 1, s, t, t', h1, h2, h3, h4 => by
    exfalso
    have e1 : s = t := Option.some.inj h1
    subst e1
    rw [runF_first, h2] at h3
    cases h3
  | k + 1, 0, s, t, t', h1, h2, h3, h4 => by
    exfalso
    have e1 : s = t' := Option.some.inj h3
    subst e1
    rw [runF_first, h4] at h1
    cases h1
  | k + 1, k' + 1, s, t, t', h1, h2, h3, h4 => by
    rw [runF_first] at h1 h3
    cases ho : offL s.lo s.wd with
    | none => rw [ho] at h1; cases h1
    | some off =>
      rw [ho] at h1 h3
      exact runF_det B fr (k := k) (k' := k') h1 h2 h3 h4
theorem runF_same {B B' : Nat → Nat} {fr fr' : Nat} (h : ∀ i, B (fr + i) = B' (fr' + i)) : runF B fr = runF B' fr' := by
  have e : nxF B fr = nxF B' fr' := by
    funext off s
    unfold nxF
    rw [h]
  unfold runF
  rw [e]
theorem take_lt {t : List Int} (hg : Good t) {i j : Nat} (hij : i < j) (hj : j ≤ t.length) : (t.take (i + 1)).sum ≤ (t.take j).sum := by
  have e : (t.take j).take (i + 1) = t.take (i + 1) := by rw [List.take_take]; congr 1; omega
  rw [← e]
  exact (sum_take_le (t := t.take j) (fun x hx => hg.2.2.1 x (List.mem_of_mem_take hx)) (i + 1)).2
/-- both Gets find the same symbol and leave the same -/
theorem got_same {f : Nat} {ep : Option Addr} {fr : Nat} {B : Nat → Nat} {w0 : World} {s : Fs} {t : List Int} {i : Nat} {w' : World} {f' : Nat} {A : Option Addr} {c : Nat} {L : List Int} {w1 : World} {fr' i' : Nat} {w'' : World}
    (h : Got f ep fr B w0 s t i w') (h' : RGot f' A c L w1 fr' s t i' w'') (hg : Good t) (hB : ∀ j, B (fr + j) = bD L (fr' + j)) :
    i = i' ∧ i < t.length ∧ ∃ s', FS f ep fr B w0 s' w' ∧ RS f' A c L w1 fr' s' w'' := by
  obtain ⟨h1, h2, h3, k, s1, h4, h5, h6⟩ := h
  obtain ⟨g1, g2, g3, k', s2, g4, g5, g6⟩ := h'
  have e : i = i' := by
    rcases Nat.lt_trichotomy i i' with h | h | h
    · exfalso; have := take_lt hg h (by omega); omega
    · exact h
    · exfalso; have := take_lt hg h (by omega); omega
  subst e
  refine ⟨rfl, h1, s1, h6, ?_⟩
  rw [runF_same hB] at h4
  rw [runF_det (bD L) fr' h4 h5 g4 g5]
  exact g6
end Go.Proofs.Ytikjolinendfgaa.Ari
