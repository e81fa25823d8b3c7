/- The walks of the package arith: total, width, narrow. -/
import Derived.Test.YtikjolinendfgaaArP
set_option linter.unusedVariables false
set_option linter.unusedSimpArgs false
namespace Go.Proofs.Ytikjolinendfgaa.Ari
open Go.RowKit Go.Proofs.YtikjolinendfgaaW.PrintWords Go.Proofs.YtikjolinendfgaaW.PrintLast Go.Proofs.YtikjolinendfgaaW.PrintMore

theorem rd_mem (t : List Int) (i : Nat) (h : i < t.length) : rd t (i : Int) = t[i] := by simp [rd, List.getD_eq_getElem?_getD, List.getElem?_eq_getElem h]
/-- the first i elements are shares, and not too many -/
def Pre (t : List Int) (i : Nat) : Prop := (∀ j : Nat, j < i → 1 ≤ rd t (j : Int)) ∧ (t.take i).sum ≤ 4096
theorem Pre.all {t : List Int} (h : Pre t t.length) (h1 : 2 ≤ t.length) (h2 : t.length ≤ 32) : Good t := by
  refine ⟨h1, h2, fun x hx => ?_, by have := h.2; rwa [List.take_length] at this⟩
  obtain ⟨i, hi, rfl⟩ := List.mem_iff_getElem.1 hx
  rw [← rd_mem t i hi]
  exact h.1 i hi
theorem Good.pre {t : List Int} (h : Good t) (i : Nat) (hi : i < t.length) : 1 ≤ rd t (i : Int) ∧ (t.take i).sum + rd t (i : Int) ≤ 4096 := by
  refine ⟨by rw [rd_mem t i hi]; exact h.2.2.1 _ (List.getElem_mem hi), ?_⟩
  rw [← sum_take_succ t i hi]
  have := (sum_take_le h.2.2.1 (i + 1)).2
  have := h.2.2.2
  omega
set_option maxRecDepth 100000 in
set_option maxHeartbeats 1000000 in
theorem total_any (A : Option Addr) (n c : Nat) (t : List Int) (w : World) (hr : ReadsInt w .i64 A n t) (hb : ∀ x ∈ t, -9223372036854775808 ≤ x ∧ x ≤ 9223372036854775807) :
    Calls Try.prog 41 #[.slice A n c] w fun e w' => e = .returned (.int .i64 (totalZ t)) ∧ w' = w := by
  obtain rfl := hr.1
  have hl := hr.2.1
  rcases Nat.lt_or_ge t.length 2 with h2 | h2
  · have HN : Hid (totalZ t = 0) := total_not fun h => by have := h.1; omega
    go_enter Try.func41, Try.ntmps41
    go_wp2
    go_ret
    exact ⟨ret_int HN.out.symm, rfl⟩
  rcases Nat.lt_or_ge 32 t.length with h32 | h32
  · have HN : Hid (totalZ t = 0) := total_not fun h => by have := h.2.1; omega
    go_enter Try.func41, Try.ntmps41
    go_wp2
    go_ret
    exact ⟨ret_int HN.out.symm, rfl⟩
  have HB : Hid (∀ i : Nat, i < t.length → -9223372036854775808 ≤ rd t (i : Int) ∧ rd t (i : Int) ≤ 9223372036854775807) := fun i hi => by rw [rd_mem t i hi]; exact hb _ (List.getElem_mem hi)
  clear hb
  go_enter Try.func41, Try.ntmps41
  go_wp2
  go_loopg [3, 16] t.length (fun gk s x W => ∃ (i : Nat) (S : Int), i ≤ t.length ∧ gk = t.length - i ∧ x = .int .i64 i ∧ s = .int .i64 S ∧ 0 ≤ S ∧ S ≤ 4096 ∧ Hid (S = (t.take i).sum) ∧ Hid (Pre t i) ∧ W = w)
  case atStart => exact ⟨0, 0, by omega, rfl, rfl, rfl, by omega, by omega, by show (0 : Int) = _; simp, ⟨fun j hj => by omega, by simp⟩, rfl⟩
  case round =>
    obtain ⟨i, S, hi, rfl, rfl, rfl, hS0, hS1, HS, HP, rfl⟩ := hrel
    by_cases hlt : i < t.length
    · obtain ⟨ad, rfl, y⟩ := hr.at_ (i : Int) (by omega) (by omega)
      rw [Int.toNat_natCast] at y
      have hxb := HB.out i hlt
      obtain ⟨x, hx⟩ : ∃ x, x = rd t (i : Int) := ⟨_, rfl⟩
      rw [← hx] at y hxb
      have HX := Lib.hid hx
      clear hx
      rcases Int.lt_or_le x 1 with h1 | h1
      · have HN : Hid (totalZ t = 0) := total_not fun h => by have := (h.pre i hlt).1; rw [← HX.out] at this; omega
        go_wp2
        go_ret
        exact ⟨ret_int HN.out.symm, rfl⟩
      rcases Int.lt_or_le (4096 - S) x with h4 | h4
      · have HN : Hid (totalZ t = 0) := total_not fun h => by have := (h.pre i hlt).2; rw [← HX.out, ← HS.out] at this; omega
        go_wp2
        go_ret
        exact ⟨ret_int HN.out.symm, rfl⟩
      · go_wp2
        go_roundg (t.length - (i + 1))
        case measure => omega
        case rel =>
          have e : S + x = (t.take (i + 1)).sum := by rw [sum_take_succ t i hlt, ← HX.out, ← HS.out]
          refine ⟨i + 1, S + x, by omega, rfl, by go_num, rfl, by omega, by omega, e, ⟨fun j hj => ?_, by rw [← e]; omega⟩, rfl⟩
          rcases Nat.lt_or_ge j i with h | h
          · exact HP.out.1 j h
          · obtain rfl : j = i := by omega
            rw [← HX.out]; exact h1
    · obtain rfl : i = t.length := by omega
      have hg := Pre.all HP.out h2 h32
      go_wp2
      go_ret
      exact ⟨ret_int (by rw [HS.out, List.take_length]; exact (total_in hg).1.symm), rfl⟩

/-- a range in memory -/
def SpanAt (W : World) (g : Nat) (lo wd : Nat) : Prop := W.cell? ⟨g, 0, none⟩ = some (.int .i64 (lo : Int)) ∧ W.cell? ⟨g, 1, none⟩ = some (.int .i64 ((lo : Int) + wd - 1)) ∧ W.frozen? ⟨g, 0, none⟩ = false ∧ W.frozen? ⟨g, 1, none⟩ = false
set_option maxRecDepth 100000 in
set_option maxHeartbeats 400000 in
theorem width_any (g lo wd : Nat) (w : World) (h : SpanAt w g lo wd) (hl : lo + wd ≤ 65536) (h1 : 1 ≤ wd) :
    Calls Try.prog 51 #[.pointer (some ⟨g, 0, none⟩)] w fun e w' => e = .returned (.int .i64 wd) ∧ ∃ k, w' = w.drewN k := by
  obtain ⟨c0, c1, -, -⟩ := h
  have e1 : IntKind.i64.wrap ((lo : Int) + wd - 1 - lo) = (wd : Int) - 1 := by rw [show (lo : Int) + wd - 1 - lo = (wd : Int) - 1 from by omega]; exact IntWalk.i64_in _ (by omega)
  have e2 : IntKind.i64.wrap ((wd : Int) - 1 + 1) = (wd : Int) := by rw [show (wd : Int) - 1 + 1 = (wd : Int) from by omega]; exact IntWalk.i64_in _ (by omega)
  go_enter Try.func51, Try.ntmps51
  go_upto_region 1 with fail
  go_quiet (fail)
  go_wp2
  go_ret
  exact ⟨rfl, _, rfl⟩
end Go.Proofs.Ytikjolinendfgaa.Ari
