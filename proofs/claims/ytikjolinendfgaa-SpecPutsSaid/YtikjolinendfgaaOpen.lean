/- From a row's reading to the facts that the walks ask: slices of numbers, slices of slices of numbers. -/
import Derived.Test.YtikjolinendfgaaBase
import Derived.Deep.Matrix
set_option linter.unusedVariables false
namespace Go.Proofs.Ytikjolinendfgaa
open Go.RowKit Go.Proofs.YtikjolinendfgaaW.PrintWords Go.Proofs.YtikjolinendfgaaW.PrintLast Go.Proofs.YtikjolinendfgaaW.PrintMore

theorem C_of_reads {w : World} {k : IntKind} {A : Option Addr} {n : Nat} {xs : List Int} (h : ReadsInt w k A n xs) : (Kd.int k).C w A n xs := by
  refine ⟨h.1, h.2.1, fun hn => ?_⟩
  obtain ⟨ad, e, hc⟩ := h.2.2 hn
  refine ⟨ad, e, fun j p hp => ⟨[.int k p], rfl, rfl, fun i u hu => ?_⟩⟩
  have hj : j < xs.length := (List.getElem?_eq_some_iff.1 hp).1
  match i, hu with
  | 0, hu =>
    simp at hu
    subst hu
    have := hc j (by have := h.1; omega)
    rw [show (Kd.int k).sz = 1 from rfl, Nat.mul_one, Nat.add_zero, this]
    congr 2
    rw [List.getD_eq_getElem?_getD, hp]; rfl

theorem C_rows {w : World} {k : IntKind} {e : Nat} {a : Addr} {len : Nat} {A : Nat → Option Addr} {L C : Nat → Nat} {Z : Nat → List Int} (hm : len ≤ maxLen)
    (h : ∀ r, r < len → w.cell? (a.add r) = some (.slice (A r) (L r) (C r)) ∧ L r ≤ C r ∧ C r ≤ maxLen ∧ (Z r).length = C r ∧ (A r = none → C r = 0) ∧ ∀ a', A r = some a' → ∀ c, c < C r → w.cell? (a'.add c) = some (.int k ((Z r).getD c 0))) :
    Kd.C (Kd.slice e (Kd.int k)) w (some a) len ((List.range len).map fun r => (Z r).take (L r)) := by
  unfold maxLen at hm h
  refine ⟨by simp, by omega, fun hn => ⟨a, rfl, fun j p hp => ?_⟩⟩
  have hj : j < len := by
    have := (List.getElem?_eq_some_iff.1 hp).1
    simpa using this
  rw [List.getElem?_map, List.getElem?_range hj] at hp
  simp only [Option.map_some, Option.some.injEq] at hp
  subst hp
  obtain ⟨h1, h2, h3, h4, h5, h6⟩ := h j hj
  have hl : ((Z j).take (L j)).length = L j := by rw [List.length_take]; omega
  refine ⟨[.slice (A j) (L j) (C j)], rfl, ⟨A j, C j, by rw [hl], by rw [hl]; exact h2, C_of_reads ⟨rfl, by rw [hl]; omega, fun hlt => ?_⟩⟩, fun i u hu => ?_⟩
  · rw [hl] at hlt ⊢
    cases hA : A j with
    | none => have := h5 hA; omega
    | some a' =>
      refine ⟨a', rfl, fun c hc => ?_⟩
      rw [h6 a' hA c (by omega)]
      congr 2
      rw [List.getD_eq_getElem?_getD, List.getD_eq_getElem?_getD, List.getElem?_take, if_pos hc]
  · match i, hu with
    | 0, hu =>
      simp at hu
      subst hu
      rw [show (Kd.slice e (Kd.int k)).sz = 1 from rfl, Nat.mul_one, Nat.add_zero]
      exact h1
end Go.Proofs.Ytikjolinendfgaa
