/- From a row's reading to the facts that the walks ask: a slice of structs of a slice of whole numbers and a whole number. -/
import Derived.Test.YtikjolinendfgaaOpen2
import Derived.OpenShut
set_option linter.unusedVariables false
namespace Go.Proofs.Ytikjolinendfgaa
open Go.RowKit Go.Proofs.YtikjolinendfgaaW.PrintWords Go.Proofs.YtikjolinendfgaaW.PrintLast Go.Proofs.YtikjolinendfgaaW.PrintMore Go.Deep Go.ChangeShapes Go.WideShapes

/-- a slice of whole numbers as it lies: address, length, capacity, the numbers up to the capacity -/
structure RowZ where
  ad : Option Addr
  len : Nat
  cap : Nat
  zs : List Int
def RowZ.Is (k : IntKind) (w : World) (r : RowZ) : Prop :=
  (r.ad = none ∧ r.len = 0 ∧ r.cap = 0 ∧ r.zs = []) ∨
  ∃ x, r.ad = some x ∧ r.len ≤ r.cap ∧ r.cap ≤ maxLen ∧ r.zs.length = r.cap ∧ (∀ i, i < r.zs.length → w.cell? (x.add i) = some (.int k (r.zs.getD i 0))) ∧ ∀ n ∈ r.zs, (Lit.int k n).wf = true
section
variable {H : Type} {enc : TypeId × Value → H} {P : Program} {w : World} {base : Nat} {held : Bool}
theorem open_li {t e te : TypeId} {f0 f1 : Field} {k k1 : IntKind} {fuel : Nat} {cs : List Value} {x : DataW H × List MemPlace} (ht : P.underlying t = some (.slice e)) (he : P.underlying e = some (.struct #[f0, f1]))
    (ce : P.cellsOf e = 2) (o0 : f0.offset = 0) (o1 : f1.offset = 1) (c0 : P.cellsOf f0.type = 1) (c1 : P.cellsOf f1.type = 1)
    (u0 : P.underlying f0.type = some (.slice te)) (ue : P.underlying te = some (.int k)) (cte : P.cellsOf te = 1) (u1 : P.underlying f1.type = some (.int k1))
    (h : DataW.trod enc P w base (fun _ => true) held fuel t cs = some x) :
    ∃ (A : Option Addr) (len cap : Nat) (xs : List (RowZ × Int)), cs = [.slice A len cap] ∧ len ≤ cap ∧ cap ≤ maxLen ∧ xs.length = len ∧
      ∀ i (hi : i < xs.length), ∃ ad, A = some ad ∧ w.cell? (ad.add (i * 2)) = some (.slice xs[i].1.ad xs[i].1.len xs[i].1.cap) ∧ w.cell? ⟨(ad.add (i * 2)).block, (ad.add (i * 2)).off + 1, none⟩ = some (.int k1 xs[i].2) ∧ xs[i].1.Is k w := by
  rcases open_slice_pairs ht he ce o0 o1 c0 c1 h with ⟨h0, -⟩ | ⟨a, len, cap, m, n, V0, V1, D0, D1, P0, P1, rfl, hb, hl, hm, hmm, rfl, hx⟩
  · exact ⟨none, 0, 0, [], h0, Nat.le_refl _, by simp [maxLen], rfl, fun i hi => by simp at hi⟩
  have hlm : len ≤ m := by rw [hmm]; split <;> omega
  have each : ∀ i, i < len → ∃ q : RowZ × Int, w.cell? (a.add (i * 2)) = some (.slice q.1.ad q.1.len q.1.cap) ∧ w.cell? ⟨(a.add (i * 2)).block, (a.add (i * 2)).off + 1, none⟩ = some (.int k1 q.2) ∧ q.1.Is k w := by
    intro i hi
    obtain ⟨h1, h2, g0, g1⟩ := hx i (by omega)
    obtain ⟨n1, hn1, -, -⟩ := DataW.trod_int u1 g1
    simp only [List.cons.injEq, and_true] at hn1
    rw [hn1] at h2
    have h3 : w.cell? ⟨(a.add (i * 2)).block, (a.add (i * 2)).off + 1, none⟩ = some (.int k1 n1) := by
      rw [← add_field _ _ 1 (by omega)]; exact h2
    rcases open_ints u0 ue cte g0 with ⟨hcs, _⟩ | ⟨x, l, c, zs, hcs, _, hl', hm', hz, _, hcell, hwz⟩
    · simp only [List.cons.injEq, and_true] at hcs
      rw [hcs] at h1
      exact ⟨(⟨none, 0, 0, []⟩, n1), h1, h3, .inl ⟨rfl, rfl, rfl, rfl⟩⟩
    · simp only [List.cons.injEq, and_true] at hcs
      rw [hcs] at h1
      exact ⟨(⟨some x, l, c, zs⟩, n1), h1, h3, .inr ⟨x, rfl, hl', hm', by simpa using hz, hcell, hwz⟩⟩
  obtain ⟨xs, hl', hxs⟩ := list_of len each
  exact ⟨some a, len, cap, xs, rfl, hl, hm, hl', fun i hi => ⟨a, rfl, hxs i hi⟩⟩
end
end Go.Proofs.Ytikjolinendfgaa
