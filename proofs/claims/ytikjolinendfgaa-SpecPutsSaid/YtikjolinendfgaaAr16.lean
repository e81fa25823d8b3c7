/- Symbols of tables in memory; the walk of the law's far (arith). -/
import Derived.Test.YtikjolinendfgaaAr12
set_option linter.unusedVariables false
set_option linter.unusedSimpArgs false
namespace Go.Proofs.Ytikjolinendfgaa.Ari
open Go.RowKit Go.Proofs.YtikjolinendfgaaW.PrintWords Go.Proofs.YtikjolinendfgaaW.PrintLast Go.Proofs.YtikjolinendfgaaW.PrintMore

/-- a symbol of a table: where the table lies, its capacity, the table, the symbol -/
structure Sy where
  ad : Option Addr
  cap : Nat
  tb : List Int
  s : Int
/-- a slice of symbols of tables -/
def Ones (W : World) (A : Option Addr) (l : List Sy) : Prop :=
  l.length ≤ 9223372036854775807 ∧ ∀ i (hi : i < l.length), ∃ ad, A = some ad ∧ W.cell? (ad.add (i * 2)) = some (.slice l[i].ad l[i].tb.length l[i].cap) ∧ W.cell? ⟨(ad.add (i * 2)).block, (ad.add (i * 2)).off + 1, none⟩ = some (.int .i64 l[i].s) ∧
    ReadsInt W .i64 l[i].ad l[i].tb.length l[i].tb ∧ l[i].tb.length ≤ l[i].cap ∧ ∀ x ∈ l[i].tb, -9223372036854775808 ≤ x ∧ x ≤ 9223372036854775807
theorem ret_bool {a b : Bool} (h : a = b) : Ending.returned (.bool a) = .returned (.bool b) := by rw [h]
def farB (l : List Sy) : Bool := decide (200 < l.length) || l.any fun x => decide (100 < x.tb.length)
set_option maxRecDepth 100000 in
set_option maxHeartbeats 1000000 in
theorem far_any (A : Option Addr) (c : Nat) (l : List Sy) (w : World) (h : Ones w A l) :
    Calls Try.prog 13 #[.slice A l.length c] w fun e w' => e = .returned (.bool (farB l)) ∧ w' = w := by
  have hl := h.1
  rcases Nat.lt_or_ge 200 l.length with h2 | h2
  · have HF : Hid (farB l = true) := by show _ = _; unfold farB; rw [decide_eq_true h2]; rfl
    clear h
    go_enter Try.func13, Try.ntmps13
    go_wp2
    go_ret
    exact ⟨ret_bool HF.out.symm, rfl⟩
  have HH := Lib.hid h
  clear h
  go_enter Try.func13, Try.ntmps13
  go_wp2
  go_loopg [3] l.length (fun gk x W => ∃ i : Nat, i ≤ l.length ∧ gk = l.length - i ∧ x = .int .i64 i ∧ Hid (∀ j (hj : j < l.length), j < i → l[j].tb.length ≤ 100) ∧ W = w)
  case atStart => exact ⟨0, by omega, rfl, rfl, fun j hj h => by omega, rfl⟩
  case round =>
    obtain ⟨i, hi, rfl, rfl, HP, rfl⟩ := hrel
    by_cases hlt : i < l.length
    · obtain ⟨ad, rfl, y, -, hr, hcap, -⟩ := HH.out.2 i hlt
      have hm := hr.2.1
      generalize hti : l[i] = si at y hr hcap hm
      have HTI := Lib.hid hti
      clear hti hr
      by_cases hb : 100 < si.tb.length
      · have HF : Hid (farB l = true) := by
          show _ = _
          unfold farB
          rw [Bool.or_eq_true]
          exact .inr (List.any_eq_true.2 ⟨l[i], List.getElem_mem hlt, by rw [HTI.out]; exact decide_eq_true hb⟩)
        go_wp2
        go_ret
        exact ⟨ret_bool HF.out.symm, rfl⟩
      · go_wp2
        go_roundg (l.length - (i + 1))
        case measure => omega
        case rel =>
          refine ⟨i + 1, by omega, rfl, by go_num, fun j hj h => ?_, rfl⟩
          rcases Nat.lt_or_ge j i with h3 | h3
          · exact HP.out j hj h3
          · obtain rfl : j = i := by omega
            rw [HTI.out]; omega
    · obtain rfl : i = l.length := by omega
      have HF : Hid (farB l = false) := by
        show _ = _
        unfold farB
        rw [decide_eq_false (by omega), Bool.false_or, List.any_eq_false]
        intro x hx
        obtain ⟨j, hj, rfl⟩ := List.mem_iff_getElem.1 hx
        have := HP.out j hj hj
        simp
        omega
      go_wp2
      go_ret
      exact ⟨ret_bool HF.out.symm, rfl⟩
end Go.Proofs.Ytikjolinendfgaa.Ari
