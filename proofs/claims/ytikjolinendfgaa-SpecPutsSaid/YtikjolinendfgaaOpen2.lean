/- From a row's reading to the facts that the walks ask: a slice of structs of two whole numbers and a text. -/
import Derived.Test.YtikjolinendfgaaBase
import Derived.Deep.Slices
import Derived.Deep.SlicePairs
set_option linter.unusedVariables false
namespace Go.Proofs.Ytikjolinendfgaa
open Go.RowKit Go.Proofs.YtikjolinendfgaaW.PrintWords Go.Proofs.YtikjolinendfgaaW.PrintLast Go.Proofs.YtikjolinendfgaaW.PrintMore Go.Deep

theorem list_of {α : Type} {R : Nat → α → Prop} : ∀ n, (∀ i, i < n → ∃ x, R i x) → ∃ xs : List α, xs.length = n ∧ ∀ i (h : i < xs.length), R i xs[i]
  | 0, _ => ⟨[], rfl, fun i h => by simp at h⟩
  | n + 1, h => by
    obtain ⟨xs, hl, hx⟩ := list_of n (fun i hi => h i (by omega))
    obtain ⟨x, hxn⟩ := h n (by omega)
    refine ⟨xs ++ [x], by simp [hl], fun i hi => ?_⟩
    by_cases e : i < xs.length
    · rw [List.getElem_append_left e]; exact hx i e
    · have : i = n := by simp at hi; omega
      subst this
      rw [List.getElem_append_right (by omega)]
      simp [hl, hxn]

section
variable {H : Type} {enc : TypeId × Value → H} {P : Program} {w : World} {base : Nat} {spare : Nat → Bool} {held : Bool}
theorem open_iis {t e : TypeId} {f0 f1 f2 : Field} {k0 k1 : IntKind} {fuel : Nat} {cs : List Value} {x : DataW H × List MemPlace} (ht : P.underlying t = some (.slice e)) (he : P.underlying e = some (.struct #[f0, f1, f2]))
    (ce : P.cellsOf e = 3) (o0 : f0.offset = 0) (o1 : f1.offset = 1) (o2 : f2.offset = 2) (c0 : P.cellsOf f0.type = 1) (c1 : P.cellsOf f1.type = 1) (c2 : P.cellsOf f2.type = 1)
    (u0 : P.underlying f0.type = some (.int k0)) (u1 : P.underlying f1.type = some (.int k1)) (u2 : P.underlying f2.type = some .string)
    (h : DataW.trod enc P w base spare held fuel t cs = some x) :
    ∃ (A : Option Addr) (len cap : Nat) (xs : List (Int × Int × ByteArray)), cs = [.slice A len cap] ∧ len ≤ cap ∧ cap ≤ maxLen ∧ xs.length = len ∧
      ∀ i (hi : i < xs.length), ∃ ad, A = some ad ∧ w.cell? (ad.add (i * 3)) = some (.int k0 xs[i].1) ∧ w.cell? ⟨(ad.add (i * 3)).block, (ad.add (i * 3)).off + 1, none⟩ = some (.int k1 xs[i].2.1) ∧
        w.cell? ⟨(ad.add (i * 3)).block, (ad.add (i * 3)).off + 2, none⟩ = some (.string xs[i].2.2) := by
  rcases open_slice ht h with ⟨h0, -⟩ | ⟨a, len, cap, m, n, D, Pl, rfl, hb, hl, hm, hmm, rfl, hx⟩
  · exact ⟨none, 0, 0, [], h0, Nat.le_refl _, by simp [maxLen], rfl, fun i hi => by simp at hi⟩
  have hlm : len ≤ m := by rw [hmm]; split <;> omega
  have each : ∀ i, i < len → ∃ q : Int × Int × ByteArray, w.cell? (a.add (i * 3)) = some (.int k0 q.1) ∧ w.cell? ⟨(a.add (i * 3)).block, (a.add (i * 3)).off + 1, none⟩ = some (.int k1 q.2.1) ∧
        w.cell? ⟨(a.add (i * 3)).block, (a.add (i * 3)).off + 2, none⟩ = some (.string q.2.2) := by
    intro i hi
    obtain ⟨cs', h1, h2⟩ := hx i (by omega)
    rw [ce] at h1
    obtain ⟨_, hlen, hcell⟩ := World.cells?_some h1
    obtain ⟨xs, k, hk, hxy, _, hxl, hf⟩ := DataW.trod_struct he h2
    match xs, hxl, cs', hlen with
    | [y0, y1, y2], _, [v0, v1, v2], _ =>
      have g0 := hf 0 f0 rfl
      have g1 := hf 1 f1 rfl
      have g2 := hf 2 f2 rfl
      simp [o0, o1, o2, c0, c1, c2] at g0 g1 g2
      have e0 := hcell 0 (by omega)
      have e1 := hcell 1 (by omega)
      have e2 := hcell 2 (by omega)
      rw [Deep.add_add] at e0 e1 e2
      obtain ⟨n0, hn0, -, -⟩ := DataW.trod_int u0 g0
      obtain ⟨n1, hn1, -, -⟩ := DataW.trod_int u1 g1
      obtain ⟨s2, hn2, -, -⟩ := DataW.trod_string u2 g2
      simp only [List.cons.injEq, and_true] at hn0 hn1 hn2
      subst hn0 hn1 hn2
      refine ⟨(n0, n1, s2), by simpa using e0, ?_, ?_⟩
      · rw [← add_field _ _ 1 (by omega)]; simpa using e1
      · rw [← add_field _ _ 2 (by omega)]; simpa using e2
  obtain ⟨xs, hl', hxs⟩ := list_of len each
  exact ⟨some a, len, cap, xs, rfl, hl, hm, hl', fun i hi => ⟨a, rfl, hxs i hi⟩⟩
end
end Go.Proofs.Ytikjolinendfgaa
