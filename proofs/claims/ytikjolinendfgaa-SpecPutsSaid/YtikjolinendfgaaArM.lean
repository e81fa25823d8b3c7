/- Small lemmas on memory, without the finders; the walk of Check (arith). -/
import Derived.Test.YtikjolinendfgaaAr16
import Derived.Test.YtikjolinendfgaaAr7
import Derived.Test.YtikjolinendfgaaOpen4
set_option linter.unusedVariables false
set_option linter.unusedSimpArgs false
namespace Go.Proofs.Ytikjolinendfgaa.Ari.M
open Go.RowKit Go.Proofs.YtikjolinendfgaaW.PrintWords Go.Proofs.YtikjolinendfgaaW.PrintLast Go.Proofs.YtikjolinendfgaaW.PrintMore Go.Proofs.Ytikjolinendfgaa.Bit

theorem cell_lt {W : World} {a : Addr} {v : Value} (h : W.cell? a = some v) : a.block < W.heap.size := by
  rcases Nat.lt_or_ge a.block W.heap.size with h1 | h1
  · exact h1
  · have h9 : W.heap[a.block]? = none := Array.getElem?_eq_none h1
    unfold World.cell? at h
    rw [h9] at h
    simp at h
theorem cell_below {w W : World} {a : Addr} {v : Value} (hb : Below w.heap.size w W) (h : w.cell? a = some v) : W.cell? a = some v :=
  (World.cell?_of_block (hb.block _ (cell_lt h))).trans h
theorem add_block (a : Addr) (j : Nat) : (a.add j).block = a.block := by unfold Addr.add; split <;> rfl
theorem reads_lt {w : World} {A : Option Addr} {n : Nat} {t : List Int} {k : IntKind} (h : ReadsInt w k A n t) (h0 : 0 < n) : ∀ ad, A = some ad → ad.block < w.heap.size := by
  intro ad e
  obtain ⟨ad', e', hc⟩ := h.2.2 h0
  rw [e] at e'
  injection e' with e'
  subst e'
  have := cell_lt (hc 0 h0)
  rwa [add_block] at this
theorem ones_below {w W : World} {A : Option Addr} {l : List Sy} (h : Ones w A l) (hb : Below w.heap.size w W) : Ones W A l := by
  refine ⟨h.1, fun i hi => ?_⟩
  obtain ⟨ad, e, h1, h2, h3, h4, h5⟩ := h.2 i hi
  exact ⟨ad, e, cell_below hb h1, cell_below hb h2, h3.below hb, h4, h5⟩
theorem far_not {l : List Sy} (h : farB l = false) : l.length ≤ 200 ∧ ∀ i (hi : i < l.length), l[i].tb.length ≤ 100 := by
  unfold farB at h
  rw [Bool.or_eq_false_iff, decide_eq_false_iff_not, List.any_eq_false] at h
  refine ⟨by omega, fun i hi => ?_⟩
  have := h.2 _ (List.getElem_mem hi)
  simp at this
  omega
set_option maxRecDepth 100000 in
set_option maxHeartbeats 1000000 in
theorem check_any (A : Option Addr) (n c : Nat) (t : List Int) (w : World) (hr : ReadsInt w .i64 A n t) (hb : ∀ x ∈ t, -9223372036854775808 ≤ x ∧ x ≤ 9223372036854775807) :
    Calls Try.prog 16 #[.slice A n c] w fun e w' => e = .returned (.int .i64 (if Good t then 0 else 1)) ∧ w' = w := by
  have HT := Lib.hid (total_any A n c t w hr hb)
  by_cases hg : Good t
  · rw [if_pos hg]
    have hz := total_in hg
    have hne : (totalZ t == 0) = false := beq_eq_false_iff_ne.2 (by omega)
    generalize totalZ t = T at HT hne
    clear hr hb hg hz
    go_enter Try.func16, Try.ntmps16
    go_wp2_with (go_at_call 41; refine HT.out.mono ?_; rintro e w1 ⟨rfl, rfl⟩)
    go_ret
    exact ⟨rfl, rfl⟩
  · rw [if_neg hg]
    rw [total_not hg] at HT
    clear hr hb hg
    go_enter Try.func16, Try.ntmps16
    go_wp2_with (go_at_call 41; refine HT.out.mono ?_; rintro e w1 ⟨rfl, rfl⟩)
    go_ret
    exact ⟨rfl, rfl⟩
/-- what a row's opening gives, as symbols of tables -/
theorem ones_of {w : World} {A : Option Addr} {len c : Nat} (xs : List (RowZ × Int)) (hl : xs.length = len) (hx : ∀ i (hi : i < xs.length), ∃ ad, A = some ad ∧ w.cell? (ad.add (i * 2)) = some (.slice xs[i].1.ad xs[i].1.len xs[i].1.cap) ∧ w.cell? ⟨(ad.add (i * 2)).block, (ad.add (i * 2)).off + 1, none⟩ = some (.int .i64 xs[i].2) ∧ xs[i].1.Is .i64 w)
    (hc : len ≤ c) (hm : c ≤ maxLen) : ∃ l : List Sy, l.length = len ∧ Ones w A l := by
  refine ⟨xs.map fun q => ⟨q.1.ad, q.1.cap, q.1.zs.take q.1.len, q.2⟩, by simpa using hl, ⟨by unfold maxLen at hm; simp; omega, fun i hi => ?_⟩⟩
  rw [List.length_map] at hi
  obtain ⟨ad, e, h1, h2, h3⟩ := hx i hi
  simp only [List.getElem_map]
  generalize xs[i] = q at h1 h2 h3
  rcases h3 with ⟨e1, e2, e3, e4⟩ | ⟨x, e1, k1, k2, k3, k4, k5⟩
  · rw [e1, e2, e3] at h1
    rw [e1, e2, e3, e4]
    exact ⟨ad, e, h1, h2, ⟨rfl, by decide, fun h => absurd h (by decide)⟩, Nat.le_refl _, fun x hx => by cases hx⟩
  · have hlen : (q.1.zs.take q.1.len).length = q.1.len := by rw [List.length_take]; omega
    unfold maxLen at k2
    refine ⟨ad, e, by rw [hlen]; exact h1, h2, ⟨rfl, by rw [hlen]; omega, fun _ => ⟨x, e1, fun j hj => ?_⟩⟩, by rw [hlen]; exact k1, fun y hy => ?_⟩
    · rw [hlen] at hj
      rw [k4 j (by omega)]
      congr 2
      rw [List.getD_eq_getElem?_getD, List.getD_eq_getElem?_getD, List.getElem?_take, if_pos hj]
    · have h5 : IntKind.i64.min ≤ y ∧ y ≤ IntKind.i64.max := by simpa [Lit.wf] using k5 y (List.mem_of_mem_take hy)
      exact h5
end Go.Proofs.Ytikjolinendfgaa.Ari.M
