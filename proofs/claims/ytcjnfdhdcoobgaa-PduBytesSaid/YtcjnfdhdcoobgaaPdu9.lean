/- The walks of the document's packets: Check, number, Bytes. -/
import Derived.Test.YtcjnfdhdcoobgaaPduP
import Derived.Test.YtcjnfdhdcoobgaaKRef
set_option linter.unusedVariables false
set_option linter.unusedSimpArgs false
namespace Go.Proofs.Ytcjnfdhdcoobgaa.Pdu
open Go.RowKit Go.Proofs.YtcjnfdhdcoobgaaW.PrintWords Go.Proofs.YtcjnfdhdcoobgaaW.PrintLast Go.Proofs.YtcjnfdhdcoobgaaW.PrintMore Go.Proofs.Ytcjnfdhdcoobgaa.Chk

set_option maxRecDepth 100000 in
set_option maxHeartbeats 1000000 in
theorem rcheck_any (K E N : Int) (L : List Int) (w : World) (hl : L.length ≤ 140737488351232) :
    Calls Try.prog 57 #[.agg #[.int .i64 K, .int .i64 E, .int .i64 N, .string (strOfNums L)]] w fun e w' => e = .returned (.bool (decide (May K E N L))) ∧ Below w.heap.size w w' := by
  have hsz := strOfNums_size L
  obtain ⟨s, hs⟩ : ∃ s, s = strOfNums L := ⟨_, rfl⟩
  rw [← hs] at hsz ⊢
  clear hs
  have hsl : s.size ≤ 140737488351232 := by omega
  obtain ⟨m, hm⟩ : ∃ m : Bool, m = decide (May K E N L) := ⟨_, rfl⟩
  rw [← hm]
  have hcases : (m = true ∧ (K = 1 ∨ (K = 2 ∧ s.size = 0)) ∧ 0 < E ∧ E ≤ 1048576 ∧ -1 < N ∧ N ≤ 16777215 ∧ s.size ≤ 512) ∨ (m = false ∧ ((K ≠ 1 ∧ K ≠ 2) ∨ (K = 2 ∧ 0 < s.size) ∨
      ((K = 1 ∨ (K = 2 ∧ s.size = 0)) ∧ (E ≤ 0 ∨ (0 < E ∧ 1048576 < E) ∨ (0 < E ∧ E ≤ 1048576 ∧ N ≤ -1) ∨ (0 < E ∧ E ≤ 1048576 ∧ -1 < N ∧ 16777215 < N) ∨ (0 < E ∧ E ≤ 1048576 ∧ -1 < N ∧ N ≤ 16777215 ∧ 512 < s.size))))) := by
    have hL : L = [] ↔ s.size = 0 := by rw [hsz]; exact List.length_eq_zero_iff.symm
    rw [hm]
    by_cases hM : May K E N L
    · refine .inl ⟨decide_eq_true hM, ?_⟩
      obtain ⟨h1, h2, h3⟩ := hM
      rw [ne_eq, hL] at h2
      omega
    · refine .inr ⟨decide_eq_false hM, ?_⟩
      unfold May at hM
      rw [ne_eq, hL] at hM
      omega
  clear hm hsz hl
  rcases hcases with ⟨rfl, rfl | ⟨rfl, he⟩, h1, h2, h3, h4, h5⟩ | ⟨rfl, ⟨k1, k2⟩ | ⟨rfl, he⟩ | ⟨rfl | ⟨rfl, he⟩, h1 | ⟨h1, h2⟩ | ⟨h1, h2, h3⟩ | ⟨h1, h2, h3, h4⟩ | ⟨h1, h2, h3, h4, h5⟩⟩⟩
  case' inr.inl => have b1 : (K == 1) = false := beq_eq_false_iff_ne.2 k1; have b2 : (K == 2) = false := beq_eq_false_iff_ne.2 k2; have b3 : (K != 1) = true := bne_iff_ne.2 k1; have b4 : (K != 2) = true := bne_iff_ne.2 k2; clear k1 k2
  all_goals try (exfalso; omega)
  all_goals
    go_enter Try.func57, Try.ntmps57
    go_wp2
    go_ret
    refine ⟨?_, ba (br w) _⟩
    first
      | rfl
      | (show Ending.returned (.bool (decide ((s.size : Int) ≤ 512))) = _; congr 2; exact decide_eq_true (by omega))
      | (show Ending.returned (.bool (decide ((s.size : Int) ≤ 512))) = _; congr 2; exact decide_eq_false (by omega))

theorem be_cons (X : Int) (k : Nat) : be X (k + 1) (k + 1) = (X / 2 ^ (8 * k) % 256) :: be X k k := by
  unfold be
  rw [List.range_succ_eq_map, List.map_cons, List.map_map]
  congr 1
  apply List.map_congr_left
  intro i hi
  have := List.mem_range.1 hi
  show X / 2 ^ (8 * (k + 1 - 1 - (i + 1))) % 256 = X / 2 ^ (8 * (k - 1 - i)) % 256
  rw [show k + 1 - 1 - (i + 1) = k - 1 - i from by omega]
theorem be_step (X : Int) (k : Nat) : X / 2 ^ (8 * k) / 256 = X / 2 ^ (8 * (k + 1)) := by
  rw [show (256 : Int) = 2 ^ 8 from rfl, Int.ediv_ediv_of_nonneg (Int.pow_nonneg (by decide)), ← Int.pow_add]
  rfl
set_option maxRecDepth 100000 in
set_option maxHeartbeats 1000000 in
theorem rnumber_any (X : Int) (wd : Nat) (hX : 0 ≤ X ∧ X < 16777216) (hw : wd ≤ 8) (w : World) :
    Calls Try.prog 59 #[.int .i64 X, .int .i64 wd] w fun e w' => e = .returned (.string (strOfNums (be X wd wd))) ∧ Below w.heap.size w w' := by
  have hcv : ∀ (W : World) (x : Int), (convert 37 9 (.slice (some ⟨W.heap.size, 0, none⟩) 1 1)).run Try.prog (W.alloc (.cells #[.int .u8 x] 5)) = .ok (.string (strOfNums [x])) (W.alloc (.cells #[.int .u8 x] 5)) :=
    fun W x => own_string (n := 1) (xs := [x]) Try.underlying37 Try.underlying5 Try.underlying9 (own_lit W 0 5 .u8 [x] (Nat.zero_le _) (by simp))
  obtain ⟨hX1, hX2⟩ := hX
  go_enter Try.func59, Try.ntmps59
  go_wp2
  go_loopg [0, 5, 6] wd (fun g n t i wr => ∃ (k : Nat) (T : Int), k ≤ wd ∧ g = wd - k ∧ i = .int .i64 k ∧ n = .int .i64 T ∧ 0 ≤ T ∧ T < 16777216 ∧ Hid (T = X / 2 ^ (8 * k)) ∧ t = .string (strOfNums (be X k k)) ∧ Below w.heap.size w wr)
  case atStart => exact ⟨0, X, by omega, by omega, rfl, rfl, hX1, hX2, by show X = _; simp, rfl, br w⟩
  case round =>
    obtain ⟨k, T, hk8, rfl, rfl, rfl, hT0, hT, HT, rfl, hb⟩ := hrel
    by_cases hlt : k < wd
    · have hlen : (strOfNums (be X k k)).size = k := by rw [strOfNums_size, be_length]
      have h1 : ∀ x, (strOfNums [x]).size = 1 := fun x => by rw [strOfNums_size]; rfl
      have e2 : strOfNums [T % 256] ++ strOfNums (be X k k) = strOfNums (be X (k + 1) (k + 1)) := by
        rw [str_append, be_cons, ← HT.out]; rfl
      have HE2 := Lib.hid e2
      clear e2
      go_wp2
      go_roundg (wd - (k + 1))
      case measure => omega
      case rel => exact ⟨k + 1, T / 256, by omega, rfl, by go_num, rfl, by omega, by omega, by show T / 256 = _; rw [HT.out, be_step], by rw [HE2.out], ba hb _⟩
    · obtain rfl : k = wd := by omega
      go_wp2
      go_ret
      exact ⟨rfl, hb⟩
end Go.Proofs.Ytcjnfdhdcoobgaa.Pdu
