/- Plain lemmas on the print's functions of slots and of its reference: whose turn a slot is, and the chances of a number. -/
import Derived.Test.YtidfahjebjaneaaBase
import Derived.Test.YtidfahjebjaneaaPSlotsTurnsx2
set_option linter.unusedVariables false
set_option linter.unusedSimpArgs false
namespace Go.Proofs.Ytidfahjebjaneaa.Slt
open Go.RowKit Go.Proofs.YtidfahjebjaneaaW.PrintWords Go.Proofs.YtidfahjebjaneaaW.PrintLast Go.Proofs.YtidfahjebjaneaaW.PrintMore Go.Proofs.Ytidfahjebjaneaa.PSlotsTurns

def Link (S F : Int) : Prop := 1 ≤ S ∧ S ≤ 16 ∧ 1 ≤ F ∧ F ≤ 8
instance (S F : Int) : Decidable (Link S F) := by unfold Link; infer_instance

theorem check_f (S F : Int) : slots_Check.f S F = some (if Link S F then 0 else 1) := by
  unfold slots_Check.f
  by_cases h : Link S F
  · rw [if_pos h]
    unfold Link at h
    rw [if_neg (by omega), if_neg (by omega), if_neg (by omega), if_neg (by omega)]
  · rw [if_neg h]
    unfold Link at h
    repeat' split
    all_goals first | rfl | omega
theorem rcheck_f (S F : Int) : psalteryref28_Check.f S F = some (decide (Link S F)) := by
  unfold psalteryref28_Check.f
  by_cases h : Link S F
  · rw [decide_eq_true h]
    unfold Link at h
    rw [if_pos (by omega), if_pos (by omega), if_pos (by omega), decide_eq_true (by omega)]
  · rw [decide_eq_false h]
    unfold Link at h
    repeat' split
    all_goals first | rfl | (congr 1; rw [decide_eq_false_iff_not]; omega)

/-- whose turn a slot is; the error -/
def turnV (S F i s : Int) : Int × Int :=
  if Link S F then (if 0 ≤ i ∧ i < 16777216 ∧ 0 ≤ s ∧ s < S ∧ s % F ≤ i then (i - s % F, 0) else (0, 280)) else (0, 1)

theorem tm {s F : Int} (hs : 0 ≤ s) : Int.tmod s F = s % F := Int.tmod_eq_emod_of_nonneg hs
theorem turn_f (S F i s : Int) : slots_Turn.f S F i s = some (turnV S F i s) := by
  unfold slots_Turn.f turnV
  rw [check_f]
  simp only [Option.bind_some]
  by_cases h : Link S F
  · rw [if_pos h, if_pos h, if_pos rfl, if_neg (by unfold Link at h; omega)]
    by_cases h1 : i < 0
    · rw [if_pos h1, if_neg (by omega)]
    rw [if_neg h1]
    by_cases h2 : i > 16777215
    · rw [if_pos h2, if_neg (by omega)]
    rw [if_neg h2]
    by_cases h3 : s < 0
    · rw [if_pos h3, if_neg (by omega)]
    rw [if_neg h3]
    by_cases h4 : s ≥ S
    · rw [if_pos h4, if_neg (by omega)]
    rw [if_neg h4, tm (by omega)]
    have hm : 0 ≤ s % F ∧ s % F < F := ⟨Int.emod_nonneg _ (by unfold Link at h; omega), Int.emod_lt_of_pos _ (by unfold Link at h; omega)⟩
    unfold Link at h
    have hw : wrap64 (i - s % F) = i - s % F := by unfold wrap64; omega
    rw [hw]
    by_cases h5 : i - s % F < 0
    · rw [if_pos h5, if_neg (by omega)]
    · rw [if_neg h5, if_pos (by omega)]
  · rw [if_neg h, if_neg h, if_neg (by decide)]
theorem rturn_f (S F i s : Int) : psalteryref28_Turn.f S F i s = some (turnV S F i s) := by
  unfold psalteryref28_Turn.f turnV
  rw [rcheck_f]
  simp only [Option.bind_some]
  by_cases h : Link S F
  · rw [if_pos h, if_pos (decide_eq_true h)]
    by_cases h1 : i < 0
    · rw [if_pos h1, if_neg (by omega)]
    rw [if_neg h1]
    by_cases h2 : i ≥ 16777216
    · rw [if_pos h2, if_neg (by omega)]
    rw [if_neg h2]
    by_cases h3 : s < 0
    · rw [if_pos h3, if_neg (by omega)]
    rw [if_neg h3]
    by_cases h4 : s ≥ S
    · rw [if_pos h4, if_neg (by omega)]
    rw [if_neg h4, if_neg (by unfold Link at h; omega), tm (by omega)]
    have hm : 0 ≤ s % F ∧ s % F < F := ⟨Int.emod_nonneg _ (by unfold Link at h; omega), Int.emod_lt_of_pos _ (by unfold Link at h; omega)⟩
    unfold Link at h
    have hw : wrap64 (i - s % F) = i - s % F := by unfold wrap64; omega
    rw [hw]
    by_cases h5 : s % F > i
    · rw [if_pos h5, if_neg (by omega)]
    · rw [if_neg h5, if_pos (by omega)]
  · rw [if_neg h, if_neg (by rw [decide_eq_false h]; decide)]
theorem alive_f : psalterylaw28_alive.f = some true := by
  unfold psalterylaw28_alive.f
  simp only [turn_f, Option.bind_some]
  decide
theorem may_f (S F k : Int) : slots_may.f S F k = some (if Link S F ∧ 0 ≤ k ∧ k < 16777216 then 0 else 1) := by
  unfold slots_may.f
  rw [check_f]
  simp only [Option.bind_some]
  by_cases h : Link S F
  · rw [if_pos h, if_pos rfl]
    by_cases h1 : k < 0
    · rw [if_pos h1, if_neg (by omega)]
    rw [if_neg h1]
    by_cases h2 : k > 16777215
    · rw [if_pos h2, if_neg (by omega)]
    · rw [if_neg h2, if_pos ⟨h, by omega, by omega⟩]
  · rw [if_neg h, if_neg (by decide), if_neg (fun h' => h h'.1)]

/-! the chances -/
def stepL (S F : Nat) : Nat → Nat → List Nat
  | 0, _ => []
  | n + 1, s => if s < S then s :: stepL S F n (s + F) else []
def P48 (k late : Nat) (s : Nat) : S48 := ⟨(k : Int) + late, s⟩
def P47 (k late : Nat) (s : Nat) : S47 := ⟨(k : Int) + late, s⟩
def slotsOf (S F late : Nat) : List Nat := (List.range S).filter fun s => s % F == late
/-- the chances of a number, as pairs: how late, the slot -/
def pairs (S F : Nat) : List (Nat × Nat) := (List.range F).flatMap fun late => (slotsOf S F late).map fun s => (late, s)

theorem steps_all : ∀ S F late : Fin 17, 1 ≤ F.val → F.val ≤ 8 → late.val < F.val → stepL S F 17 late = slotsOf S F late := by decide +kernel
theorem steps_eq {S F late : Nat} (hS : S ≤ 16) (hF : 1 ≤ F) (hF8 : F ≤ 8) (hl : late < F) : stepL S F 17 late = slotsOf S F late :=
  steps_all ⟨S, by omega⟩ ⟨F, by omega⟩ ⟨late, by omega⟩ hF hF8 hl
theorem stepL_length (S F : Nat) : ∀ n s, (stepL S F n s).length ≤ n
  | 0, _ => by simp [stepL]
  | n + 1, s => by unfold stepL; split; simp; exact stepL_length S F n _; simp

theorem l1_ok {S F k late : Nat} (hS : S ≤ 16) (hF : 1 ≤ F) (hF8 : F ≤ 8) (hk : k < 16777216) (hl : late < F) : ∀ (n s : Nat) (acc r : List S48), S < s + n → s ≤ 100 → acc.length ≤ 1000 + (17 - n) →
    n ≤ 17 → (∃ K, slots_chances.l0 K k (acc ++ (stepL S F n s).map (P48 k late)) F (late + 1 : Nat) S F = some r) → ∃ K, slots_chances.l1 K k acc late s F late S F = some r
  | 0, s, acc, r, h, hs, ha, hn, ⟨K, hK⟩ => ⟨K + 1, by
      simp only [slots_chances.l1]
      rw [if_neg (by omega), show wrap64 ((late : Int) + 1) = ((late + 1 : Nat) : Int) from by unfold wrap64; omega]
      simpa [stepL] using hK⟩
  | n + 1, s, acc, r, h, hs, ha, hn, hK => by
    by_cases hlt : s < S
    · have hr := l1_ok hS hF hF8 hk hl n (s + F) (acc ++ [P48 k late s]) r (by omega) (by omega) (by simp; omega) (by omega) (by
        obtain ⟨K, hK⟩ := hK
        refine ⟨K, ?_⟩
        rw [← hK, List.append_assoc]
        conv => rhs; rw [stepL, if_pos hlt]
        rfl)
      obtain ⟨K, hr⟩ := hr
      refine ⟨K + 1, ?_⟩
      simp only [slots_chances.l1]
      rw [if_pos (by omega), if_pos (by omega), show wrap64 ((k : Int) + late) = (k : Int) + late from by unfold wrap64; omega, show wrap64 ((s : Int) + F) = ((s + F : Nat) : Int) from by unfold wrap64; omega]
      exact hr
    · obtain ⟨K, hK⟩ := hK
      refine ⟨K + 1, ?_⟩
      simp only [slots_chances.l1]
      rw [if_neg (by omega), show wrap64 ((late : Int) + 1) = ((late + 1 : Nat) : Int) from by unfold wrap64; omega]
      rw [stepL, if_neg hlt] at hK
      simpa using hK

def chL (S F k : Nat) (ls : List Nat) : List S48 := ls.flatMap fun late => (slotsOf S F late).map (P48 k late)
def rchL (S F k : Nat) (ls : List Nat) : List S47 := ls.flatMap fun late => (slotsOf S F late).map (P47 k late)
theorem slotsOf_length (S F late : Nat) : (slotsOf S F late).length ≤ S := by
  unfold slotsOf; have := List.length_filter_le (fun s => s % F == late) (List.range S); simpa using this

theorem l0_ok {S F k : Nat} (hS : S ≤ 16) (hF : 1 ≤ F) (hF8 : F ≤ 8) (hk : k < 16777216) : ∀ (n late : Nat) (acc : List S48), late + n = F → acc.length ≤ 16 * late →
    ∃ K, slots_chances.l0 K k acc F late S F = some (acc ++ chL S F k (List.range' late n))
  | 0, late, acc, h, ha => ⟨1, by simp only [slots_chances.l0]; rw [if_neg (by omega)]; simp [chL]⟩
  | n + 1, late, acc, h, ha => by
    have hl : late < F := by omega
    have h1 := l0_ok hS hF hF8 hk n (late + 1) (acc ++ (slotsOf S F late).map (P48 k late)) (by omega) (by have := slotsOf_length S F late; simp; omega)
    obtain ⟨K, h2⟩ := l1_ok hS hF hF8 hk hl 17 late acc _ (by omega) (by omega) (by omega) (by omega) (by rw [steps_eq hS hF hF8 hl]; exact h1)
    refine ⟨K + 1, ?_⟩
    simp only [slots_chances.l0]
    rw [if_pos (by omega), h2]
    simp [chL, List.range'_succ, List.append_assoc]

theorem chances_f {S F k : Nat} (hS : S ≤ 16) (hF : 1 ≤ F) (hF8 : F ≤ 8) (hk : k < 16777216) : ∃ K, slots_chances.f K S F k = some (chL S F k (List.range F)) := by
  obtain ⟨K, h⟩ := l0_ok hS hF hF8 hk F 0 [] (by omega) (by simp)
  exact ⟨K, by unfold slots_chances.f; rw [List.range_eq_range']; simpa using h⟩

theorem p47_eq (k late s : Nat) : (⟨((k + late : Nat) : Int), (s : Int)⟩ : S47) = P47 k late s := by unfold P47; push_cast; rfl
theorem w_sub {a m : Nat} (ha : a < 17000000) (hm : m < 100) : wrap64 ((a : Int) - (m : Int)) = (a : Int) - (m : Int) := by unfold wrap64; omega
theorem w_one {a : Nat} (ha : a < 17000000) : wrap64 ((a : Int) + 1) = ((a + 1 : Nat) : Int) := by unfold wrap64; omega
theorem r1_ok {S F k late : Nat} (hS : S ≤ 16) (hF : 1 ≤ F) (hF8 : F ≤ 8) (hk : k < 16777216) (hl : late < F) : ∀ (n s : Nat) (acc r : List S47), s + n = S → acc.length ≤ 1000 + s →
    (∃ K, psalteryref28_Chances.l0 K k (acc ++ ((List.range' s n).filter fun s => s % F == late).map (P47 k late)) ((k + late + 1 : Nat) : Int) S F = some r) → ∃ K, psalteryref28_Chances.l1 K k acc ((k + late : Nat) : Int) s S F = some r
  | 0, s, acc, r, h, ha, ⟨K, hK⟩ => by
    refine ⟨K + 1, ?_⟩
    simp only [psalteryref28_Chances.l1]
    rw [if_neg (by omega), w_one (by omega)]
    rw [List.range'_zero, List.filter_nil, List.map_nil, List.append_nil] at hK
    exact hK
  | n + 1, s, acc, r, h, ha, hK => by
    obtain ⟨m, hme⟩ : ∃ m, m = s % F := ⟨_, rfl⟩
    have hlt : m < F := by rw [hme]; exact Nat.mod_lt _ hF
    have hm := Lib.hid (show (Int.tmod (s : Int) F) = (m : Int) from by rw [tm (Int.natCast_nonneg _), hme]; rfl)
    rw [List.range'_succ, List.filter_cons, ← hme] at hK
    clear hme
    have hw := Lib.hid (w_sub (a := k + late) (m := m) (by omega) (by omega))
    have hw1 := Lib.hid (w_one (a := s) (by omega))
    by_cases he : m = late
    · rw [if_pos (by rw [beq_iff_eq]; exact he)] at hK
      obtain ⟨K, hr⟩ := r1_ok hS hF hF8 hk hl n (s + 1) (acc ++ [P47 k late s]) r (by omega) (by rw [List.length_append, List.length_singleton]; omega) (by
        obtain ⟨K, hK⟩ := hK
        refine ⟨K, ?_⟩
        rw [← hK, List.map_cons, List.append_assoc]; rfl)
      refine ⟨K + 1, ?_⟩
      simp only [psalteryref28_Chances.l1]
      rw [if_pos (by omega), if_neg (by omega), hm.out, hw.out, if_pos (by omega), if_pos (by omega), hw1.out, p47_eq]
      exact hr
    · rw [if_neg (by rw [beq_iff_eq]; exact he)] at hK
      obtain ⟨K, hr⟩ := r1_ok hS hF hF8 hk hl n (s + 1) acc r (by omega) (by omega) hK
      refine ⟨K + 1, ?_⟩
      simp only [psalteryref28_Chances.l1]
      rw [if_pos (by omega), if_neg (by omega), hm.out, hw.out, if_neg (by omega), hw1.out]
      exact hr

theorem r0_ok {S F k : Nat} (hS : S ≤ 16) (hF : 1 ≤ F) (hF8 : F ≤ 8) (hk : k < 16777216) : ∀ (n late : Nat) (acc : List S47), late + n = F → acc.length ≤ 16 * late →
    ∃ K, psalteryref28_Chances.l0 K k acc ((k + late : Nat) : Int) S F = some (acc ++ rchL S F k (List.range' late n))
  | 0, late, acc, h, ha => ⟨1, by
      simp only [psalteryref28_Chances.l0]
      rw [if_neg (by unfold wrap64; omega)]; simp [rchL]⟩
  | n + 1, late, acc, h, ha => by
    have hl : late < F := by omega
    have h1 := r0_ok hS hF hF8 hk n (late + 1) (acc ++ (slotsOf S F late).map (P47 k late)) (by omega) (by have := slotsOf_length S F late; simp; omega)
    obtain ⟨K, h2⟩ := r1_ok hS hF hF8 hk hl S 0 acc _ (by omega) (by omega) (by rw [← List.range_eq_range']; exact h1)
    refine ⟨K + 1, ?_⟩
    simp only [psalteryref28_Chances.l0]
    rw [if_pos (by unfold wrap64; omega)]
    have h3 : psalteryref28_Chances.l1 K k acc ((k + late : Nat) : Int) 0 S F = _ := h2
    rw [h3]
    simp [rchL, List.range'_succ, List.append_assoc]

theorem rchances_f {S F k : Nat} (hS : S ≤ 16) (hF : 1 ≤ F) (hF8 : F ≤ 8) (hk : k < 16777216) : ∃ K, psalteryref28_Chances.f K S F k = some (rchL S F k (List.range F)) := by
  obtain ⟨K, h⟩ := r0_ok hS hF hF8 hk F 0 [] (by omega) (by simp)
  exact ⟨K, by unfold psalteryref28_Chances.f; rw [List.range_eq_range']; simpa using h⟩

/-- the two lists are one -/
theorem ch_same (S F k : Nat) : chL S F k (List.range F) = (pairs S F).map fun q => P48 k q.1 q.2 := by
  unfold chL pairs; rw [List.map_flatMap]; congr 1; funext late; rw [List.map_map]; rfl
theorem rch_same (S F k : Nat) : rchL S F k (List.range F) = (pairs S F).map fun q => P47 k q.1 q.2 := by
  unfold rchL pairs; rw [List.map_flatMap]; congr 1; funext late; rw [List.map_map]; rfl
theorem pairs_ends : ∀ S F : Fin 17, 1 ≤ F.val → F.val ≤ 8 → (pairs S F).length ≤ S.val ∧ ∀ q ∈ pairs S F, q.1 < F.val ∧ q.2 < S.val ∧ q.2 % F.val = q.1 := by decide +kernel
theorem pairs_in {S F : Nat} (hS : S ≤ 16) (hF : 1 ≤ F) (hF8 : F ≤ 8) : (pairs S F).length ≤ S ∧ ∀ q ∈ pairs S F, q.1 < F ∧ q.2 < S ∧ q.2 % F = q.1 :=
  pairs_ends ⟨S, by omega⟩ ⟨F, by omega⟩ hF hF8
end Go.Proofs.Ytidfahjebjaneaa.Slt
