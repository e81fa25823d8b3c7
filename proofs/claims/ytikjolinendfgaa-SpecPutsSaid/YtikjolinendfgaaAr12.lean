/- The walks of the document's Total, Floor (arith). -/
import Derived.Test.YtikjolinendfgaaAr1
set_option linter.unusedVariables false
set_option linter.unusedSimpArgs false
namespace Go.Proofs.Ytikjolinendfgaa.Ari
open Go.RowKit Go.Proofs.YtikjolinendfgaaW.PrintWords Go.Proofs.YtikjolinendfgaaW.PrintLast Go.Proofs.YtikjolinendfgaaW.PrintMore

set_option maxRecDepth 100000 in
set_option maxHeartbeats 1000000 in
theorem rtotal_any (A : Option Addr) (n c : Nat) (t : List Int) (w : World) (hr : ReadsInt w .i64 A n t) (hb : ∀ x ∈ t, -9223372036854775808 ≤ x ∧ x ≤ 9223372036854775807) :
    Calls Try.prog 17 #[.slice A n c] w fun e w' => e = .returned (.int .i64 (totalZ t)) ∧ w' = w := by
  obtain rfl := hr.1
  have hl := hr.2.1
  have HB : Hid (∀ i : Nat, i < t.length → -9223372036854775808 ≤ rd t (i : Int) ∧ rd t (i : Int) ≤ 9223372036854775807) := fun i hi => by rw [rd_mem t i hi]; exact hb _ (List.getElem_mem hi)
  clear hb
  go_enter Try.func17, Try.ntmps17
  go_wp2
  go_loopg [3, 4] t.length (fun gk s x W => ∃ (i : Nat) (S : Int), i ≤ t.length ∧ gk = t.length - i ∧ x = .int .i64 i ∧ s = .int .i64 S ∧ 0 ≤ S ∧ S ≤ 4096 ∧ Hid (S = (t.take i).sum) ∧ Hid (Pre t i) ∧ W = w)
  case atStart => exact ⟨0, 0, by omega, rfl, rfl, rfl, by omega, by omega, by show (0 : Int) = _; simp, ⟨fun j hj => by omega, by simp⟩, rfl⟩
  case round =>
    obtain ⟨i, S, hi, rfl, rfl, rfl, hS0, hS1, HS, HP, rfl⟩ := hrel
    by_cases hlt : i < t.length
    · obtain ⟨ad, rfl, y⟩ := hr.at_ (i : Int) (by omega) (by omega)
      rw [Int.toNat_natCast] at y
      have hxb := HB.out i hlt
      obtain ⟨x, hx⟩ : ∃ x, x = rd t (i : Int) := ⟨_, rfl⟩
      rw [← hx] at y hxb
      have HX := Lib.hid hx
      clear hx
      rcases Int.lt_or_le x 1 with h1 | h1
      · have HN : Hid (totalZ t = 0) := total_not fun h => by have := (h.pre i hlt).1; rw [← HX.out] at this; omega
        go_wp2
        go_ret
        exact ⟨ret_int HN.out.symm, rfl⟩
      rcases Int.lt_or_le 4096 x with h2 | h2
      · have HN : Hid (totalZ t = 0) := total_not fun h => by have := (h.pre i hlt).2; rw [← HX.out, ← HS.out] at this; omega
        go_wp2
        go_ret
        exact ⟨ret_int HN.out.symm, rfl⟩
      rcases Int.lt_or_le 4096 (S + x) with h4 | h4
      · have HN : Hid (totalZ t = 0) := total_not fun h => by have := (h.pre i hlt).2; rw [← HX.out, ← HS.out] at this; omega
        go_wp2
        go_ret
        exact ⟨ret_int HN.out.symm, rfl⟩
      · go_wp2
        go_roundg (t.length - (i + 1))
        case measure => omega
        case rel =>
          have e : S + x = (t.take (i + 1)).sum := by rw [sum_take_succ t i hlt, ← HX.out, ← HS.out]
          refine ⟨i + 1, S + x, by omega, rfl, by go_num, rfl, by omega, by omega, e, ⟨fun j hj => ?_, by rw [← e]; omega⟩, rfl⟩
          rcases Nat.lt_or_ge j i with h | h
          · exact HP.out.1 j h
          · obtain rfl : j = i := by omega
            rw [← HX.out]; exact h1
    · obtain rfl : i = t.length := by omega
      rcases Nat.lt_or_ge t.length 2 with h2 | h2
      · have HN : Hid (totalZ t = 0) := total_not fun h => by have := h.1; omega
        go_wp2
        go_ret
        exact ⟨ret_int HN.out.symm, rfl⟩
      rcases Nat.lt_or_ge 32 t.length with h32 | h32
      · have HN : Hid (totalZ t = 0) := total_not fun h => by have := h.2.1; omega
        go_wp2
        go_ret
        exact ⟨ret_int HN.out.symm, rfl⟩
      have hg := Pre.all HP.out h2 h32
      go_wp2
      go_ret
      exact ⟨ret_int (by rw [HS.out, List.take_length]; exact (total_in hg).1.symm), rfl⟩
set_option maxRecDepth 100000 in
set_option maxHeartbeats 1000000 in
theorem rfloor_any (A : Option Addr) (n c : Nat) (t : List Int) (s : Nat) (x : Int) (hx : x = s) (w : World) (hr : ReadsInt w .i64 A n t) (hg : Good t) (hs : s ≤ t.length) (F : Nat) (hF : (t.take s).sum = F) :
    Calls Try.prog 45 #[.slice A n c, .int .i64 x] w fun e w' => e = .returned (.int .i64 (F : Int)) ∧ w' = w := by
  subst hx
  obtain rfl := hr.1
  have HPR := Lib.hid (fun i (hi : i < t.length) => hg.pre i hi)
  have HTS := Lib.hid (fun i (hi : i < t.length) => sum_take_succ t i hi)
  have HF := Lib.hid hF
  have htl := hg.2.1
  clear hF hg
  go_enter Try.func45, Try.ntmps45
  go_wp2
  go_loopg [5, 6] s (fun gk x y W => ∃ (i : Nat) (S : Nat), i ≤ s ∧ gk = s - i ∧ y = .int .i64 i ∧ x = .int .i64 S ∧ S ≤ 4096 ∧ Hid ((t.take i).sum = S) ∧ W = w)
  case atStart => exact ⟨0, 0, by omega, rfl, rfl, rfl, by omega, by show (t.take 0).sum = _; simp, rfl⟩
  case round =>
    obtain ⟨i, S, hi, rfl, rfl, rfl, hS, HS, rfl⟩ := hrel
    by_cases hlt : i < s
    · obtain ⟨ad, rfl, y⟩ := hr.at_ (i : Int) (by omega) (by omega)
      rw [Int.toNat_natCast] at y
      obtain ⟨p1, p2⟩ := HPR.out i (by omega)
      have HT2 := Lib.hid (HTS.out i (by omega))
      rw [HS.out] at p2 HT2
      obtain ⟨x, hx⟩ := Int.eq_ofNat_of_zero_le (show 0 ≤ rd t (i : Int) by omega)
      rw [hx] at y p1 p2 HT2
      clear hx
      go_wp2
      go_roundg (s - (i + 1))
      case measure => omega
      case rel => exact ⟨i + 1, S + x, by omega, rfl, by go_num, by go_num, by omega, by show (t.take (i + 1)).sum = _; rw [HT2.out]; omega, rfl⟩
    · obtain rfl : i = s := by omega
      obtain rfl : S = F := by have := HS.out; have := HF.out; omega
      go_wp2
      go_ret
      exact ⟨rfl, rfl⟩
end Go.Proofs.Ytikjolinendfgaa.Ari
