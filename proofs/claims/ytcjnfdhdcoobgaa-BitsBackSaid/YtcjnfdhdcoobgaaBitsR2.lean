/- The walks of the document's pad: Put and Get. -/
import Derived.Test.YtcjnfdhdcoobgaaBitsR1
set_option linter.unusedVariables false
set_option linter.unusedSimpArgs false
namespace Go.Proofs.Ytcjnfdhdcoobgaa.Bit
open Go.RowKit Go.Proofs.YtcjnfdhdcoobgaaW.PrintWords Go.Proofs.YtcjnfdhdcoobgaaW.PrintLast Go.Proofs.YtcjnfdhdcoobgaaW.PrintMore Go.Proofs.Ytcjnfdhdcoobgaa.Byt

theorem tmod_bit (v x : Nat) (hv : v < 2 ^ 32) : wrap64 (((v : Int) / 2 ^ x).tmod 2) = ((v.testBit x).toNat : Int) := by
  have e : ((v : Int) / 2 ^ x) = ((v / 2 ^ x : Nat) : Int) := by push_cast; rfl
  rw [e, Int.tmod_eq_emod_of_nonneg (Int.natCast_nonneg _), ← bit_div]
  unfold wrap64
  generalize v / 2 ^ x = q
  omega
theorem RefAt.s1' {W : World} {B0 m N F B : Nat} {O : Nat → Bool} {v : Value} (h : RefAt W B0 m N F B O v) (z : Int) (x : Nat) (hz : z = x) : RefAt (W.setCell ⟨m, 1, none⟩ (.int .i64 z)) B0 m N x B O v := by subst hz; exact h.s1 x
theorem RefAt.s2' {W : World} {B0 m N F B : Nat} {O : Nat → Bool} {v : Value} (h : RefAt W B0 m N F B O v) (z : Int) (x : Nat) (hz : z = x) : RefAt (W.setCell ⟨m, 2, none⟩ (.int .i64 z)) B0 m N F x O v := by subst hz; exact h.s2 x
theorem pow_u64 (q : Nat) (h : q ≤ 32) : IntKind.u64.wrap ((2 : Int) ^ q) = ((2 ^ q : Nat) : Int) := by
  have h1 : 2 ^ q ≤ 2 ^ 32 := Nat.pow_le_pow_right (by decide) h
  have e : (2 : Int) ^ q = ((2 ^ q : Nat) : Int) := by push_cast; rfl
  have h2 : (2 : Nat) ^ 32 = 4294967296 := by decide
  rw [h2] at h1
  rw [e, IntKind.wrap_u64]
  generalize 2 ^ q = P at h1
  omega
theorem putE_ok2 {L v k : Nat} (h : putE L v k = 0) (hv : v < 2 ^ 32) : k ≤ 32 ∧ k ≤ L ∧ mayE L k = 0 ∧ v < 2 ^ k := by
  obtain ⟨h1, h2⟩ := putE_ok h
  unfold putE at h
  split at h
  · cases h
  · rename_i hn
    refine ⟨h1, h2, h, ?_⟩
    rw [Int.toNat_natCast] at hn
    rcases Nat.lt_or_ge k 32 with hk | hk
    · rcases Nat.eq_zero_or_pos (v / 2 ^ k) with h0 | h0
      · exact Nat.lt_of_div_eq_zero (Nat.two_pow_pos _) h0
      · exact absurd ⟨by omega, by omega, by omega⟩ hn
    · have : k = 32 := by omega
      rw [this]; exact hv
set_option maxRecDepth 100000 in
set_option maxHeartbeats 1000000 in
theorem rput_no (B0 m N F B : Nat) (O : Nat → Bool) (u : Value) (v : Nat) (k : Int) (fr : Bool) (w : World) (h : RefAt w B0 m N F B O u) (hv : v < 2 ^ 32) (hn : N ≤ 1000000) (hB : F + B ≤ N) (he : putE (N - F - B) v k ≠ 0) :
    Calls Try.prog 18 #[.pointer (some ⟨m, 0, none⟩), .int .u32 v, .int .i64 k, .bool fr] w fun e w' => e = .returned (.int .i64 (putE (N - F - B) v k)) ∧ ∃ k, w' = w.drewN k := by
  have T := rmay_any B0 m N F B O u k w h (by omega) hB
  have e : putE (N - F - B) v k = if 0 ≤ k ∧ k < 32 ∧ v / 2 ^ k.toNat ≠ 0 then 1 else mayE (N - F - B) k := rfl
  generalize putE (N - F - B) v k = pe at e he
  generalize N - F - B = L at T e
  clear h
  by_cases h1 : k < 0
  · have e1 : mayE L k = 1 := if_pos (.inl h1)
    rw [if_neg (by omega), e1] at e
    rw [e]
    clear T e e1 he
    go_enter Try.func18, Try.ntmps18
    go_wp2
    go_ret
    exact ⟨rfl, 0, rfl⟩
  · by_cases h2 : 32 < k
    · have e1 : mayE L k = 1 := if_pos (.inr h2)
      rw [if_neg (by omega), e1] at e
      rw [e]
      clear T e e1 he
      go_enter Try.func18, Try.ntmps18
      go_wp2
      go_ret
      exact ⟨rfl, 0, rfl⟩
    · obtain ⟨q, rfl⟩ := Int.eq_ofNat_of_zero_le (show 0 ≤ k by omega)
      have hq : q ≤ 32 := by omega
      obtain ⟨P, hP, eP⟩ : ∃ P : Nat, P = 2 ^ q ∧ IntKind.u64.wrap ((2 : Int) ^ q) = (P : Int) := ⟨_, rfl, pow_u64 q hq⟩
      rw [Int.toNat_natCast, ← hP] at e
      have hPle : P ≤ 4294967296 := by rw [hP]; exact Nat.pow_le_pow_right (n := 2) (j := 32) (by decide) hq
      have hPpos : 0 < P := by rw [hP]; exact Nat.two_pow_pos _
      have h32 : q = 32 → P = 4294967296 := fun h => by rw [hP, h]
      clear hP
      by_cases h3 : P ≤ v
      · have b1 : decide (P ≤ v) = true := decide_eq_true h3
        have h4 : ¬ v / P = 0 := by have := Nat.div_pos h3 hPpos; omega
        have h5 : ¬ q = 32 := fun h => by have := h32 h; omega
        rw [if_pos ⟨by omega, by omega, h4⟩] at e
        rw [e]
        clear T e he h4 h32
        go_enter Try.func18, Try.ntmps18
        go_wp2_with fail
        go_ret
        exact ⟨rfl, 0, rfl⟩
      · have b1 : decide (P ≤ v) = false := decide_eq_false h3
        rw [if_neg (fun h => h.2.2 (Nat.div_eq_of_lt (by omega)))] at e
        rw [← e] at T
        have b2 : (pe != 0) = true := bne_iff_ne.2 he
        clear e he h32
        go_enter Try.func18, Try.ntmps18
        go_wp2_with fail
        refine T.mono ?_
        rintro e w1 ⟨rfl, k1, rfl⟩
        go_wp2
        go_ret
        exact ⟨rfl, _, rfl⟩

set_option maxRecDepth 100000 in
set_option maxHeartbeats 1000000 in
theorem rput_front (B0 m N F B : Nat) (O : Nat → Bool) (u : Value) (v k : Nat) (w : World) (h : RefAt w B0 m N F B O u) (hv : v < 2 ^ 32) (hn : N ≤ 1000000) (hB : F + B ≤ N) (he : putE (N - F - B) v k = 0) :
    Calls Try.prog 18 #[.pointer (some ⟨m, 0, none⟩), .int .u32 v, .int .i64 k, .bool true] w fun e w' => e = .returned (.int .i64 0) ∧ RefAt w' B0 m N (F + k) B (putF O F k k v) u ∧ RB B0 m u w w' := by
  have T := rmay_any B0 m N F B O u k w h (by omega) hB
  obtain ⟨hk, hkL, hm, hvk⟩ := putE_ok2 he hv
  rw [hm] at T
  obtain ⟨P, hP, eP⟩ : ∃ P : Nat, P = 2 ^ k ∧ IntKind.u64.wrap ((2 : Int) ^ k) = (P : Int) := ⟨_, rfl, pow_u64 k hk⟩
  have b1 : decide (P ≤ v) = false := decide_eq_false (by rw [hP]; omega)
  have hlt0 : v < P := by rw [hP]; exact hvk
  have hPle : P ≤ 4294967296 := by rw [hP]; exact Nat.pow_le_pow_right (n := 2) (j := 32) (by decide) hk
  clear he hm hP
  have h0 : RefAt w B0 m N (F + 0) B (putF O F k 0 v) u := by rw [putF_zero]; exact h
  clear hvk h
  go_enter Try.func18, Try.ntmps18
  go_wp2_with fail
  refine T.mono ?_
  rintro e w1 ⟨rfl, k1, rfl⟩
  clear T
  go_wp2
  go_loopg [10] k (fun gk x W => ∃ j : Nat, j ≤ k ∧ gk = k - j ∧ x = .int .i64 j ∧ RefAt W B0 m N (F + j) B (putF O F k j v) u ∧ RB B0 m u w W)
  case atStart => exact ⟨0, by omega, by omega, rfl, h0.drew _, (RB.refl _ _ _ _).drew _⟩
  case round =>
    obtain ⟨j, hj, rfl, rfl, hp, h2⟩ := hrel
    by_cases hlt : j < k
    · obtain ⟨g, cap, rfl, hcap, hg, hne⟩ := hp.form (by omega)
      obtain ⟨p, hpe⟩ : ∃ p, p = F + j := ⟨_, rfl⟩
      have HPE := Lib.hid hpe
      have hpN : p < N := by omega
      rw [← hpe] at hp
      have c0 := hp.c0
      have c1 := hp.c1
      obtain ⟨y1, y2⟩ := hp.bit p hpN
      obtain ⟨x, hx⟩ : ∃ x : Nat, (k : Int) - 1 - j = x := ⟨k - 1 - j, by omega⟩
      have HX := Lib.hid hx
      have hx32 : x < 32 := by omega
      have HN := Lib.hid hne
      have e1 : IntKind.i64.wrap ((k : Int) - 1) = (k : Int) - 1 := IntWalk.i64_in _ (by omega)
      have e2 : IntKind.i64.wrap ((k : Int) - 1 - j) = (x : Int) := by rw [hx]; exact IntWalk.i64_in _ (by omega)
      have e3 : IntKind.u64.wrap (x : Int) = (x : Int) := by rw [IntKind.wrap_u64]; omega
      have H3 := hp.put p (v.testBit x)
      have d1 := H3.c1
      have d2 := H3.free 1
      have e4 : wrap64 (((v : Int) / 2 ^ x).tmod 2) = ((v.testBit x).toNat : Int) := tmod_bit v x hv
      have HS := Lib.hid (putF_succ O F k j v)
      clear hne hx hpe
      go_wp2
      go_still_tail 18, (by kernel_rfl)
      change wpList _ _ _ _ _ wr.drew
      go_wp2
      go_roundg (k - (j + 1))
      case measure => omega
      case rel =>
        refine ⟨j + 1, by omega, rfl, by go_num, ?_, ?_⟩
        · have := HX.out
          have e5 : k - 1 - j = x := by omega
          have H4 := HS.out
          rw [e5, ← HPE.out] at H4
          rw [← H4]
          exact (H3.s1' ((p : Int) + 1) (F + (j + 1)) (by have := HPE.out; omega)).drew1
        · exact ((h2.setg hg rfl p _).setm hp.le 1 _).drew1
    · obtain rfl : j = k := by omega
      go_wp2
      go_ret
      exact ⟨rfl, hp, h2⟩
set_option maxRecDepth 100000 in
set_option maxHeartbeats 1000000 in
theorem rput_back (B0 m n N F B : Nat) (O : Nat → Bool) (u : Value) (v k : Nat) (w : World) (hNn : N = 8 * n) (h : RefAt w B0 m N F B O u) (hv : v < 2 ^ 32) (hn : N ≤ 800000) (hB : F + B ≤ N) (he : putE (N - F - B) v k = 0) :
    Calls Try.prog 18 #[.pointer (some ⟨m, 0, none⟩), .int .u32 v, .int .i64 k, .bool false] w fun e w' => e = .returned (.int .i64 0) ∧ RefAt w' B0 m N F (B + k) (putB O N B k v) u ∧ RB B0 m u w w' := by
  have T := rmay_any B0 m N F B O u k w h (by omega) hB
  obtain ⟨hk, hkL, hm, hvk⟩ := putE_ok2 he hv
  rw [hm] at T
  obtain ⟨P, hP, eP⟩ : ∃ P : Nat, P = 2 ^ k ∧ IntKind.u64.wrap ((2 : Int) ^ k) = (P : Int) := ⟨_, rfl, pow_u64 k hk⟩
  have b1 : decide (P ≤ v) = false := decide_eq_false (by rw [hP]; omega)
  have hlt0 : v < P := by rw [hP]; exact hvk
  have hPle : P ≤ 4294967296 := by rw [hP]; exact Nat.pow_le_pow_right (n := 2) (j := 32) (by decide) hk
  clear he hm hP
  have h0 : RefAt w B0 m N F (B + 0) (putB O N B 0 v) u := by rw [putB_zero]; exact h
  have HNN := Lib.hid hNn
  clear hvk h hNn
  go_enter Try.func18, Try.ntmps18
  go_wp2_with fail
  refine T.mono ?_
  rintro e w1 ⟨rfl, k1, rfl⟩
  clear T
  go_wp2
  go_loopg [10] k (fun gk x W => ∃ j : Nat, j ≤ k ∧ gk = k - j ∧ x = .int .i64 j ∧ RefAt W B0 m N F (B + j) (putB O N B j v) u ∧ RB B0 m u w W)
  case atStart => exact ⟨0, by omega, by omega, rfl, h0.drew _, (RB.refl _ _ _ _).drew _⟩
  case round =>
    obtain ⟨j, hj, rfl, rfl, hp, h2⟩ := hrel
    by_cases hlt : j < k
    · obtain ⟨g, cap, rfl, hcap, hg, hne⟩ := hp.form (by omega)
      obtain ⟨p, hpe⟩ : ∃ p, p = N - 1 - (B + j) := ⟨_, rfl⟩
      have HPE := Lib.hid hpe
      have hpN : p < N := by omega
      have c0 := hp.c0
      have c2 := hp.c2
      obtain ⟨y1, y2⟩ := hp.bit p hpN
      have hx32 : j < 32 := by omega
      have HN := Lib.hid hne
      have e3 : IntKind.u64.wrap (j : Int) = (j : Int) := by rw [IntKind.wrap_u64]; omega
      have TB := rback_any B0 m n F (B + j) (B + j) p (putB O N B j v) _ wr.drew (by rw [← HNN.out]; exact hp.drew1) (by have := HNN.out; omega) (by have := HNN.out; omega) (by rw [← HNN.out]; exact hpe)
      have H3 := hp.put p (v.testBit j)
      have d1 := H3.c2
      have d2 := H3.free 2
      have e4 : wrap64 (((v : Int) / 2 ^ j).tmod 2) = ((v.testBit j).toNat : Int) := tmod_bit v j hv
      have HS := Lib.hid (putB_succ O N B j v (by omega))
      clear hne hpe
      go_wp2
      refine wp_region_still_tail 17 (by kernel_rfl) (by kernel_rfl) ?_
      simp only [List.take_succ_cons, List.take_zero, List.drop_succ_cons, List.drop_zero]
      repeat still_step
      still_call TB
      repeat still_step
      try refine wpStill_nil ?_
      change wpList _ _ _ _ _ wr.drew
      clear TB
      go_wp2
      go_roundg (k - (j + 1))
      case measure => omega
      case rel =>
        refine ⟨j + 1, by omega, rfl, by go_num, ?_, ?_⟩
        · have H4 := HS.out
          have e5 : N - 1 - (B + j) = p := HPE.out.symm
          rw [e5] at H4
          rw [← H4]
          exact (H3.s2' _ (B + (j + 1)) (by push_cast; omega)).drew1
        · exact ((h2.setg hg rfl p _).setm hp.le 2 _).drew1
    · obtain rfl : j = k := by omega
      go_wp2
      go_ret
      exact ⟨rfl, hp, h2⟩
end Go.Proofs.Ytcjnfdhdcoobgaa.Bit
