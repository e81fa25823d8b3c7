/- The walks of the package pdu: may a packet be, and its bytes. -/
import Derived.Test.YtcjnfdhdcoobgaaKMore
set_option linter.unusedVariables false
set_option linter.unusedSimpArgs false
namespace Go.Proofs.Ytcjnfdhdcoobgaa.Pdu
open Go.RowKit Go.Proofs.YtcjnfdhdcoobgaaW.PrintWords Go.Proofs.YtcjnfdhdcoobgaaW.PrintLast Go.Proofs.YtcjnfdhdcoobgaaW.PrintMore Go.Proofs.Ytcjnfdhdcoobgaa.Chk

/-- a packet's value -/
def pv (K E N : Int) (L : List Int) : Value := .agg #[.int .i64 K, .int .i64 E, .int .i64 N, .string (strOfNums L)]
/-- may it be? -/
def May (K E N : Int) (L : List Int) : Prop := (K = 1 ∨ K = 2) ∧ ¬ (K = 2 ∧ L ≠ []) ∧ 1 ≤ E ∧ E ≤ 1048576 ∧ 0 ≤ N ∧ N < 16777216 ∧ L.length ≤ 512
instance (K E N : Int) (L : List Int) : Decidable (May K E N L) := by unfold May; infer_instance

theorem str_empty (L : List Int) : ((strOfNums L).toList == []) = decide (L = []) := by
  rw [Go.ByteArray.toList_eq, strOfNums_data]
  cases L <;> simp

theorem str_isEmpty (L : List Int) : (strOfNums L).toList.isEmpty = decide (L = []) := by
  rw [Go.ByteArray.toList_eq, strOfNums_data]
  cases L <;> simp

set_option maxRecDepth 100000 in
set_option maxHeartbeats 1000000 in
theorem may_any (K E N : Int) (L : List Int) (w : World) (hl : L.length ≤ 140737488351232) :
    Calls Try.prog 55 #[.agg #[.int .i64 K, .int .i64 E, .int .i64 N, .string (strOfNums L)]] w fun e w' => e = .returned (.bool (decide (May K E N L))) ∧ Below w.heap.size w w' := by
  have hsz := strOfNums_size L
  have hem := str_isEmpty L
  obtain ⟨s, hs⟩ : ∃ s, s = strOfNums L := ⟨_, rfl⟩
  rw [← hs] at hsz hem ⊢
  clear hs
  have hsl : s.size ≤ 140737488351232 := by omega
  obtain ⟨m, hm⟩ : ∃ m : Bool, m = decide (May K E N L) := ⟨_, rfl⟩
  rw [← hm]
  have hcases : (m = true ∧ (K = 1 ∨ (K = 2 ∧ s.toList.isEmpty = true)) ∧ 1 ≤ E ∧ E ≤ 1048576 ∧ 0 ≤ N ∧ N < 16777216 ∧ s.size ≤ 512) ∨ (m = false ∧ ((K ≠ 1 ∧ K ≠ 2) ∨ (K = 2 ∧ s.toList.isEmpty = false) ∨
      ((K = 1 ∨ (K = 2 ∧ s.toList.isEmpty = true)) ∧ (E < 1 ∨ (1 ≤ E ∧ 1048576 < E) ∨ (1 ≤ E ∧ E ≤ 1048576 ∧ N < 0) ∨ (1 ≤ E ∧ E ≤ 1048576 ∧ 0 ≤ N ∧ 16777216 ≤ N) ∨ (1 ≤ E ∧ E ≤ 1048576 ∧ 0 ≤ N ∧ N < 16777216 ∧ 512 < s.size))))) := by
    rw [hsz, hem, hm]
    by_cases hL : L = []
    · subst hL
      by_cases hM : May K E N []
      · refine .inl ⟨decide_eq_true hM, ?_⟩
        obtain ⟨h1, h2, h3⟩ := hM
        exact ⟨by rcases h1 with h1 | h1 <;> simp [h1], h3⟩
      · refine .inr ⟨decide_eq_false hM, ?_⟩
        by_cases h1 : K = 1 ∨ K = 2
        · refine .inr (.inr ⟨by rcases h1 with h1 | h1 <;> simp [h1], ?_⟩)
          have h2 : ¬ (1 ≤ E ∧ E ≤ 1048576 ∧ 0 ≤ N ∧ N < 16777216 ∧ ([] : List Int).length ≤ 512) := fun h => hM ⟨h1, fun h => h.2 rfl, h⟩
          omega
        · exact .inl (by omega)
    · have hd : decide (L = []) = false := decide_eq_false hL
      rw [hd]
      by_cases hM : May K E N L
      · refine .inl ⟨decide_eq_true hM, ?_⟩
        obtain ⟨h1, h2, h3⟩ := hM
        exact ⟨.inl (by rcases h1 with h1 | h1; exact h1; exact absurd ⟨h1, hL⟩ h2), h3⟩
      · refine .inr ⟨decide_eq_false hM, ?_⟩
        by_cases h1 : K = 1
        · refine .inr (.inr ⟨.inl h1, ?_⟩)
          have h2 : ¬ (1 ≤ E ∧ E ≤ 1048576 ∧ 0 ≤ N ∧ N < 16777216 ∧ L.length ≤ 512) := fun h => hM ⟨.inl h1, fun h => by omega, h⟩
          omega
        · by_cases h2 : K = 2
          · exact .inr (.inl ⟨h2, rfl⟩)
          · exact .inl ⟨h1, h2⟩
  clear hm hem hsz hl
  rcases hcases with ⟨rfl, rfl | ⟨rfl, he⟩, h1, h2, h3, h4, h5⟩ | ⟨rfl, ⟨k1, k2⟩ | ⟨rfl, he⟩ | ⟨rfl | ⟨rfl, he⟩, h1 | ⟨h1, h2⟩ | ⟨h1, h2, h3⟩ | ⟨h1, h2, h3, h4⟩ | ⟨h1, h2, h3, h4, h5⟩⟩⟩
  case' inr.inl => have b1 : (K == 1) = false := beq_eq_false_iff_ne.2 k1; have b2 : (K == 2) = false := beq_eq_false_iff_ne.2 k2; have b3 : (K != 1) = true := bne_iff_ne.2 k1; have b4 : (K != 2) = true := bne_iff_ne.2 k2; clear k1 k2
  all_goals
    go_enter Try.func55, Try.ntmps55
    go_wp2
    go_ret
    refine ⟨?_, ba (br w) _⟩
    first
      | rfl
      | (show Ending.returned (.bool (decide ((s.size : Int) ≤ 512))) = _; congr 2; exact decide_eq_true (by omega))
      | (show Ending.returned (.bool (decide ((s.size : Int) ≤ 512))) = _; congr 2; exact decide_eq_false (by omega))

end Go.Proofs.Ytcjnfdhdcoobgaa.Pdu
