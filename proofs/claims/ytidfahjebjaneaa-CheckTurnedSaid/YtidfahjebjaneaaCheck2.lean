/- The walks of check.of, check.Bits, check.Of and of the reference's Kind. -/
import Derived.Test.YtidfahjebjaneaaCheck1
set_option linter.unusedVariables false
set_option linter.unusedSimpArgs false
namespace Go.Proofs.Ytidfahjebjaneaa.Chk
open Go.RowKit Go.Proofs.YtidfahjebjaneaaW.PrintWords Go.Proofs.YtidfahjebjaneaaW.PrintLast Go.Proofs.YtidfahjebjaneaaW.PrintMore

set_option maxHeartbeats 400000 in
theorem of_knd {wd st p : Nat} (hk : Knd wd st p) (w : World) :
    Calls Try.prog 43 #[.int .i64 wd] w fun e w' => e = .returned (.tuple #[.agg #[.int .i64 wd, .int .u32 st, .int .u32 p], .int .i64 0]) ∧ Below w.heap.size w w' := by
  cases hk
  all_goals
    go_enter Try.func43, Try.ntmps43
    go_wp2
    refine bodyPost_ret ?_ ?_ ⟨rfl, (Below.refl _ _).alloc (Nat.le_refl _) _⟩
    · simp [results, Try.results43, go_sem]
    · rfl

def Bad (a : Int) : Prop := a ≠ 8 ∧ a ≠ 16 ∧ a ≠ 24
theorem knd_or (a : Int) : (∃ wd st p, Knd wd st p ∧ a = ((wd : Nat) : Int)) ∨ Bad a := by
  by_cases h1 : a = 8
  · exact .inl ⟨8, 15, 29, .k8, h1⟩
  by_cases h2 : a = 16
  · exact .inl ⟨16, _, _, .k16, h2⟩
  by_cases h3 : a = 24
  · exact .inl ⟨24, _, _, .k24, h3⟩
  exact .inr ⟨h1, h2, h3⟩

set_option maxHeartbeats 400000 in
theorem of_bad (a : Int) (ha : Bad a) (w : World) :
    Calls Try.prog 43 #[.int .i64 a] w fun e w' => e = .returned (.tuple #[.agg #[.int .i64 0, .int .u32 0, .int .u32 0], .int .i64 1]) ∧ Below w.heap.size w w' := by
  obtain ⟨h1, h2, h3⟩ := ha
  have b1 : (a == 8) = false := beq_eq_false_iff_ne.2 h1
  have b2 : (a == 16) = false := beq_eq_false_iff_ne.2 h2
  have b3 : (a == 24) = false := beq_eq_false_iff_ne.2 h3
  clear h1 h2 h3
  go_enter Try.func43, Try.ntmps43
  go_wp2
  refine bodyPost_ret ?_ ?_ ⟨rfl, (Below.refl _ _).alloc (Nat.le_refl _) _⟩
  · simp [results, Try.results43, go_sem]
  · rfl

set_option maxHeartbeats 400000 in
theorem kind_knd {wd st p : Nat} (hk : Knd wd st p) (W : Int) (hW : W = wd) (w : World) :
    Calls Try.prog 14 #[.int .i64 W] w fun e w' => e = .returned (.tuple #[.int .u32 st, .int .u32 p, .bool true]) ∧ w = w' := by
  subst hW
  cases hk
  all_goals
    go_enter Try.func14, Try.ntmps14
    go_wp2
    go_ret3
    exact ⟨rfl, rfl⟩

set_option maxHeartbeats 400000 in
theorem kind_bad (a : Int) (ha : Bad a) (w : World) :
    Calls Try.prog 14 #[.int .i64 a] w fun e w' => e = .returned (.tuple #[.int .u32 0, .int .u32 0, .bool false]) ∧ w = w' := by
  obtain ⟨h1, h2, h3⟩ := ha
  have b1 : (a == 8) = false := beq_eq_false_iff_ne.2 h1
  have b2 : (a == 16) = false := beq_eq_false_iff_ne.2 h2
  have b3 : (a == 24) = false := beq_eq_false_iff_ne.2 h3
  clear h1 h2 h3
  go_enter Try.func14, Try.ntmps14
  go_wp2
  go_ret3
  exact ⟨rfl, rfl⟩

set_option maxRecDepth 100000 in
set_option maxHeartbeats 400000 in
theorem bits_knd {wd st p : Nat} (hk : Knd wd st p) (A : Option Addr) (c : Nat) (l : List Int) (n : Int) (w : World) (h0 : 0 ≤ n) (hn : n ≤ 8 * l.length)
    (hl : l.length ≤ 140737488351232) (hlu : ∀ x ∈ l, 0 ≤ x ∧ x ≤ 255) (hr : ReadsInt w .u8 A l.length l) :
    Calls Try.prog 16 #[.int .i64 wd, .slice A l.length c, .int .i64 n] w
      fun e w' => e = .returned (.tuple #[.int .u32 ((sumN wd st p l n.toNat : Nat) : Int), .int .i64 0]) ∧ Below w.heap.size w w' := by
  have HLU := Lib.hid hlu
  clear hlu
  go_enter Try.func16, Try.ntmps16
  go_wp2_with (first | (go_at_call 43; refine (of_knd hk _).mono ?_; rintro e w1 ⟨rfl, hb1⟩) | (go_at_call 44; refine (sum_any hk _ _ _ _ _ h0 hn hl HLU.out (hr.below (ba hb1 _))).mono ?_; rintro e w2 ⟨rfl, hb2⟩))
  go_ret2
  exact ⟨rfl, bt (ba hb1 _) hb2⟩

set_option maxRecDepth 100000 in
set_option maxHeartbeats 400000 in
theorem bits_out {wd st p : Nat} (hk : Knd wd st p) (A : Option Addr) (m c : Nat) (n : Int) (w : World) (h0 : n < 0 ∨ 8 * (m : Int) < n)
    (hl : m ≤ 140737488351232) :
    Calls Try.prog 16 #[.int .i64 wd, .slice A m c, .int .i64 n] w
      fun e w' => e = .returned (.tuple #[.int .u32 0, .int .i64 1]) ∧ Below w.heap.size w w' := by
  go_enter Try.func16, Try.ntmps16
  go_wp2_with (go_at_call 43; refine (of_knd hk _).mono ?_; rintro e w1 ⟨rfl, hb1⟩)
  all_goals (go_ret2; exact ⟨rfl, ba hb1 _⟩)

set_option maxRecDepth 100000 in
set_option maxHeartbeats 400000 in
theorem bits_bad (a : Int) (ha : Bad a) (A : Option Addr) (m c : Nat) (n : Int) (w : World) (hl : m ≤ 140737488351232) :
    Calls Try.prog 16 #[.int .i64 a, .slice A m c, .int .i64 n] w
      fun e w' => e = .returned (.tuple #[.int .u32 0, .int .i64 1]) ∧ Below w.heap.size w w' := by
  go_enter Try.func16, Try.ntmps16
  go_wp2_with (go_at_call 43; refine (of_bad a ha _).mono ?_; rintro e w1 ⟨rfl, hb1⟩)
  go_ret2
  exact ⟨rfl, ba hb1 _⟩

set_option maxRecDepth 100000 in
set_option maxHeartbeats 400000 in
theorem ofb_knd {wd st p : Nat} (hk : Knd wd st p) (A : Option Addr) (c : Nat) (l : List Int) (w : World)
    (hl : l.length ≤ 140737488351232) (hlu : ∀ x ∈ l, 0 ≤ x ∧ x ≤ 255) (hr : ReadsInt w .u8 A l.length l) :
    Calls Try.prog 15 #[.int .i64 wd, .slice A l.length c] w
      fun e w' => e = .returned (.tuple #[.int .u32 ((sumN wd st p l (8 * l.length) : Nat) : Int), .int .i64 0]) ∧ Below w.heap.size w w' := by
  have HLU := Lib.hid hlu
  clear hlu
  have e8 : (8 * (l.length : Int)).toNat = 8 * l.length := by omega
  have HF := Lib.hid e8
  clear e8
  go_enter Try.func15, Try.ntmps15
  go_wp2_with (go_at_call 16; refine (bits_knd hk _ _ _ _ _ (by omega) (by omega) hl HLU.out hr).mono ?_; rintro e w1 ⟨rfl, hb1⟩; rw [HF.out])
  go_ret2
  exact ⟨rfl, hb1⟩

set_option maxRecDepth 100000 in
set_option maxHeartbeats 400000 in
theorem ofb_bad (a : Int) (ha : Bad a) (A : Option Addr) (m c : Nat) (w : World) (hl : m ≤ 140737488351232) :
    Calls Try.prog 15 #[.int .i64 a, .slice A m c] w
      fun e w' => e = .returned (.tuple #[.int .u32 0, .int .i64 1]) ∧ Below w.heap.size w w' := by
  go_enter Try.func15, Try.ntmps15
  go_wp2_with (go_at_call 16; refine (bits_bad a ha _ _ _ _ _ hl).mono ?_; rintro e w1 ⟨rfl, hb1⟩)
  go_ret2
  exact ⟨rfl, hb1⟩
end Go.Proofs.Ytidfahjebjaneaa.Chk
