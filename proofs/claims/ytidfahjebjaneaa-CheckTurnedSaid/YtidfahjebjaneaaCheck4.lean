/- The walk of psalterylaw06.alive, and of the statement CheckSums. -/
import Derived.Test.YtidfahjebjaneaaCheck3
set_option linter.unusedVariables false
set_option linter.unusedSimpArgs false
namespace Go.Proofs.Ytidfahjebjaneaa.Chk
open Go.RowKit Go.Proofs.YtidfahjebjaneaaW.PrintWords Go.Proofs.YtidfahjebjaneaaW.PrintLast Go.Proofs.YtidfahjebjaneaaW.PrintMore

theorem sum_123 : sumN 16 65535 4129 [49, 50, 51, 52, 53, 54, 55, 56, 57] (8 * 9) = 10673 := by decide +kernel

theorem reads_nil (W : World) (k : IntKind) (A : Option Addr) : ReadsInt W k A 0 [] := ⟨rfl, by omega, fun h => by omega⟩
theorem reads_lit (W : World) (t : TypeId) (f : Nat × Nat) (k : IntKind) (xs : List Int) (h : xs.length ≤ 9223372036854775807) : ReadsInt (W.alloc (.cells (nums k xs).toArray t f)) k (some ⟨W.heap.size, 0, none⟩) xs.length xs := by
  refine ⟨rfl, h, fun _ => ⟨_, rfl, fun j hj => ?_⟩⟩
  rw [add_plain]
  unfold World.cell? World.alloc
  simp [nums, List.getElem?_eq_getElem hj, List.getD_eq_getElem?_getD]

set_option maxRecDepth 100000 in
set_option maxHeartbeats 400000 in
theorem alive_any (w : World) : Calls Try.prog 13 #[] w fun e w' => e = .returned (.bool true) ∧ Below w.heap.size w w' := by
  have HS := Lib.hid sum_123
  have kc := fun (w : World) (C : Array Value) (n c : Nat) => Lib.run_convert_bytes_const (P := Try.prog) w 22 5 C n c Try.underlying22 Try.underlying5
  go_enter Try.func13, Try.ntmps13
  go_wp2_with fail
  refine (ofb_knd .k8 none 0 [] _ (by decide) (by simp) (reads_nil _ _ _)).mono ?_
  rintro e w1 ⟨rfl, hb1⟩
  rw [show ((sumN 8 15 29 [] (8 * ([] : List Int).length) : Nat) : Int) = 15 from by decide]
  go_wp2_with fail
  refine (ofb_knd .k16 (some ⟨w1.heap.size, 0, none⟩) 9 [49, 50, 51, 52, 53, 54, 55, 56, 57] _ (by decide) (by decide) (reads_lit w1 5 (9, 10) .u8 [49, 50, 51, 52, 53, 54, 55, 56, 57] (by decide))).mono ?_
  rintro e w2 ⟨rfl, hb2⟩
  rw [show ([49, 50, 51, 52, 53, 54, 55, 56, 57] : List Int).length = 9 from rfl, HS.out]
  go_wp2_with fail
  refine (ofb_bad 9 (by unfold Bad; decide) none 0 0 _ (by decide)).mono ?_
  rintro e w3 ⟨rfl, hb3⟩
  go_wp2_with fail
  go_ret
  exact ⟨rfl, bt (bt (ba hb1 _) hb2) hb3⟩

set_option maxRecDepth 100000 in
set_option maxHeartbeats 1000000 in
theorem sums_any (a : Int) (A : Option Addr) (c : Nat) (l : List Int) (n : Int) (w : World) (hl : l.length ≤ 140737488351232) (hlu : ∀ x ∈ l, 0 ≤ x ∧ x ≤ 255) (hr : ReadsInt w .u8 A l.length l) :
    Calls Try.prog 3 #[.int .i64 a, .slice A l.length c, .int .i64 n] w fun e w' => e = .returned (.bool true) ∧ Below w.heap.size w w' := by
  have HLU := Lib.hid hlu
  clear hlu
  by_cases hlen : 2000 < l.length
  · go_enter Try.func3, Try.ntmps3
    go_wp2_with fail
    refine (alive_any _).mono ?_
    rintro e w1 ⟨rfl, hb1⟩
    go_wp2
    go_ret
    exact ⟨rfl, hb1⟩
  rcases knd_or a with ⟨wd, st, p, hk, rfl⟩ | hbad
  · by_cases hn : 0 ≤ n ∧ n ≤ 8 * l.length
    · obtain ⟨n0, n1⟩ := hn
      have e8 := Lib.hid (show (8 * (l.length : Int)).toNat = 8 * l.length by omega)
      go_enter Try.func3, Try.ntmps3
      go_wp2_with fail
      refine (alive_any _).mono ?_
      rintro e w1 ⟨rfl, hb1⟩
      go_wp2_with fail
      refine (kind_knd hk _ rfl _).mono ?_
      rintro e w2 ⟨rfl, rfl⟩
      go_wp2_with fail
      refine (ofb_knd hk _ _ _ _ hl HLU.out (hr.below hb1)).mono ?_
      rintro e w2 ⟨rfl, hb2⟩
      go_wp2_with fail
      refine (bits_knd hk _ _ _ _ _ n0 n1 hl HLU.out (hr.below (bt hb1 hb2))).mono ?_
      rintro e w3 ⟨rfl, hb3⟩
      go_wp2_with (go_at_call 17; refine (rsum_knd hk _ _ _ _ _ (by omega) (by omega) hl HLU.out (hr.below (bt (bt hb1 hb2) hb3))).mono ?_; rintro e w4 ⟨rfl, rfl⟩; try rw [e8.out])
      all_goals (go_ret; exact ⟨rfl, bt (bt hb1 hb2) hb3⟩)
    · have n1 : n < 0 ∨ 8 * (l.length : Int) < n := by omega
      have e8 := Lib.hid (show (8 * (l.length : Int)).toNat = 8 * l.length by omega)
      clear hn
      go_enter Try.func3, Try.ntmps3
      go_wp2_with fail
      refine (alive_any _).mono ?_
      rintro e w1 ⟨rfl, hb1⟩
      go_wp2_with fail
      refine (kind_knd hk _ rfl _).mono ?_
      rintro e w2 ⟨rfl, rfl⟩
      go_wp2_with fail
      refine (ofb_knd hk _ _ _ _ hl HLU.out (hr.below hb1)).mono ?_
      rintro e w2 ⟨rfl, hb2⟩
      go_wp2_with fail
      refine (bits_out hk _ _ _ _ _ n1 hl).mono ?_
      rintro e w3 ⟨rfl, hb3⟩
      go_wp2_with (go_at_call 17; refine (rsum_knd hk _ _ _ _ _ (by omega) (by omega) hl HLU.out (hr.below (bt (bt hb1 hb2) hb3))).mono ?_; rintro e w4 ⟨rfl, rfl⟩; try rw [e8.out])
      all_goals (go_ret; exact ⟨rfl, bt (bt hb1 hb2) hb3⟩)
  · go_enter Try.func3, Try.ntmps3
    go_wp2_with fail
    refine (alive_any _).mono ?_
    rintro e w1 ⟨rfl, hb1⟩
    go_wp2_with fail
    refine (kind_bad _ hbad _).mono ?_
    rintro e w2 ⟨rfl, rfl⟩
    go_wp2_with fail
    refine (ofb_bad _ hbad _ _ _ _ hl).mono ?_
    rintro e w2 ⟨rfl, hb2⟩
    go_wp2_with fail
    refine (bits_bad _ hbad _ _ _ _ _ hl).mono ?_
    rintro e w3 ⟨rfl, hb3⟩
    go_wp2
    go_ret
    exact ⟨rfl, bt (bt hb1 hb2) hb3⟩

theorem sums_of (a : Int) (A : Option Addr) (len c : Nat) (l : List Int) (n : Int) (w : World) (he : l.length = len) (hl : len ≤ 140737488351232) (hlu : ∀ x ∈ l, 0 ≤ x ∧ x ≤ 255) (hr : ReadsInt w .u8 A len l) :
    Calls Try.prog 3 #[.int .i64 a, .slice A len c, .int .i64 n] w fun e w' => e = .returned (.bool true) ∧ Below w.heap.size w w' := by
  subst he
  exact sums_any a A c l n w hl hlu hr
end Go.Proofs.Ytidfahjebjaneaa.Chk
