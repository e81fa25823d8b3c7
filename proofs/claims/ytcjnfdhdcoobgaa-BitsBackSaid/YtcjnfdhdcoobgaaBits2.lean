/- The walks of the package bits: what is written to a pad. -/
import Derived.Test.YtcjnfdhdcoobgaaBits1
set_option linter.unusedVariables false
set_option linter.unusedSimpArgs false
namespace Go.Proofs.Ytcjnfdhdcoobgaa.Bit
open Go.RowKit Go.Proofs.YtcjnfdhdcoobgaaW.PrintWords Go.Proofs.YtcjnfdhdcoobgaaW.PrintLast Go.Proofs.YtcjnfdhdcoobgaaW.PrintMore Go.Proofs.Ytcjnfdhdcoobgaa.Byt

theorem PadAt.drew1 {W : World} {g n F B : Nat} {O : Nat → Bool} (h : PadAt W g n F B O) : PadAt W.drew g n F B O := ⟨h.at_, own_move h.own fun _ _ => rfl⟩
theorem Two.drew1 {g : Nat} {w w1 : World} (h : Two g w w1) : Two g w w1.drew := ⟨⟨h.below.os, h.below.tape, h.below.output, h.below.size, h.below.block⟩, h.far, h.size⟩
theorem ahead_pad (g n F B q wt : Nat) (O : Nat → Bool) (w : World) (h : PadAt w g n F B O) (hF : F < 1000000) (hq : q = F / 8) (hwt : wt = 2 ^ (7 - F % 8)) :
    Calls Try.prog 50 #[.pointer (some ⟨g + 1, 0, none⟩)] w fun e w' => e = .returned (.tuple #[.int .i64 q, .int .u8 wt]) ∧ PadAt w' g n (F + 1) B O ∧ Two g w w' :=
  (ahead_any (g + 1) F B _ _ w h.at_ hF).mono fun e w' ⟨h1, k, h2⟩ => ⟨by rw [hq, hwt]; exact h1, by rw [h2]; exact (h.s0 (F + 1)).drew k, by rw [h2]; exact ((Two.refl g w).set (.inr rfl) 0 _).drew k⟩
theorem behind_pad (g n F B q wt : Nat) (O : Nat → Bool) (w : World) (h : PadAt w g n F B O) (hn : n ≤ 100000) (hB : B < 8 * n) (hq : q = (8 * n - 1 - B) / 8) (hwt : wt = 2 ^ (7 - (8 * n - 1 - B) % 8)) :
    Calls Try.prog 49 #[.pointer (some ⟨g + 1, 0, none⟩), .int .i64 n] w fun e w' => e = .returned (.tuple #[.int .i64 q, .int .u8 wt]) ∧ PadAt w' g n F (B + 1) O ∧ Two g w w' :=
  (behind_any (g + 1) F B n _ _ w h.at_ hn hB).mono fun e w' ⟨h1, k, h2⟩ => ⟨by rw [hq, hwt]; exact h1, by rw [h2]; exact (h.s1 (B + 1)).drew k, by rw [h2]; exact ((Two.refl g w).set (.inr rfl) 1 _).drew k⟩

set_option maxRecDepth 100000 in
set_option maxHeartbeats 1000000 in
theorem front_any (g n F B : Nat) (O : Nat → Bool) (v : Nat) (k : Nat) (w : World) (h : PadAt w g n F B O) (hv : v < 2 ^ 32) (hn : n ≤ 100000) (hB : F + B ≤ 8 * n)
    (he : putE (8 * n - F - B) v k = 0) (hO : ∀ i, F ≤ i → i + B < 8 * n → O i = false) :
    Calls Try.prog 17 #[.pointer (some ⟨g + 1, 0, none⟩), .int .u32 v, .int .i64 k] w fun e w' => e = .returned (.int .i64 0) ∧ PadAt w' g n (F + k) B (putF O F k k v) ∧ Two g w w' := by
  have T := write_any g n F B O v k w h hv hn hB
  rw [he] at T
  obtain ⟨hk32, hkL⟩ := putE_ok he
  have HO := Lib.hid hO
  clear he hO
  go_enter Try.func17, Try.ntmps17
  go_wp2_with fail
  refine T.mono ?_
  rintro e w1 ⟨rfl, k1, rfl⟩
  clear T
  have h1 := h.drew k1
  clear h
  go_wp2_with fail
  go_loopg [2] k (fun gk x W => ∃ j : Nat, j ≤ k ∧ gk = k - j ∧ x = .int .i64 ((k : Int) - 1 - j) ∧ PadAt W g n (F + j) B (putF O F k j v) ∧ Two g w W)
  case atStart => exact ⟨0, by omega, by omega, by simp, by rw [putF_zero]; exact h1, (Two.refl _ _).drew _⟩
  case round =>
    obtain ⟨j, hj, rfl, rfl, hp, h2⟩ := hrel
    by_cases hlt : j < k
    · obtain ⟨x, hx⟩ : ∃ x : Nat, (k : Int) - 1 - j = x := ⟨k - 1 - j, by omega⟩
      have HX := Lib.hid hx
      have hx32 : x < 32 := by omega
      rw [hx]
      clear hx
      go_wp2_with fail
      refine (ahead_any (g + 1) (F + j) B _ _ _ hp.at_ (by omega)).mono ?_
      rintro e w3 ⟨rfl, k3, hw3⟩
      have hp3 : PadAt w3 g n (F + j + 1) B (putF O F k j v) := by rw [hw3]; exact (hp.s0 (F + j + 1)).drew k3
      have h3 : Two g w w3 := by rw [hw3]; exact (h2.set (.inr rfl) 0 (.int .i64 ((F + j + 1 : Nat) : Int))).drew k3
      clear hw3
      have hpos : F + j < 8 * n := by omega
      have hfree : putF O F k j v (F + j) = false := (putF_free _ _ _ _ _ _ (by omega)).trans (HO.out _ (by omega) (by omega))
      have HS := Lib.hid (putF_succ O F k j v)
      have HF := Lib.hid hfree
      clear hfree
      generalize putF O F k j v = O' at hp3 HS HF
      clear hp h2
      obtain ⟨y1, y2⟩ := hp3.byte (F + j) hpos
      have y3 := hp3.at_.c2
      have HB := Lib.hid (hp3.bit (F + j) hpos)
      obtain ⟨q, hq⟩ : ∃ q, q = (F + j) / 8 := ⟨_, rfl⟩
      have hqn : q < n := by omega
      rw [← hq] at y1 y2 HB ⊢
      have hby := byteN_lt O' q
      generalize byteN O' q = by_ at y1 HB hby
      obtain ⟨wt, hwt⟩ : ∃ wt, wt = 2 ^ (7 - (F + j) % 8) := ⟨_, rfl⟩
      rw [← hwt] at HB ⊢
      have hw8 : wt < 256 := by rw [hwt]; exact Nat.lt_of_le_of_lt (Nat.pow_le_pow_right (by decide) (show 7 - (F + j) % 8 ≤ 7 by omega)) (by decide)
      clear hwt hq
      have hbit := Lib.hid (bit_test v x hv hx32)
      have hor := Lib.hid (bits_or8 by_ wt hby hw8)
      cases hb : v.testBit x with
      | true =>
        have b1 := hbit.out
        rw [hb] at b1
        go_wp2
        go_roundg (k - (j + 1))
        case measure => omega
        case rel =>
          refine ⟨j + 1, by omega, rfl, by congr 1; have := HX.out; push_cast; omega, ?_, h3.set (.inl rfl) _ _⟩
          rw [hor.out, ← HS.out, show k - 1 - j = x from by have := HX.out; omega, hb]
          exact HB.out
      | false =>
        have b1 := hbit.out
        rw [hb] at b1
        go_wp2
        go_roundg (k - (j + 1))
        case measure => omega
        case rel =>
          refine ⟨j + 1, by omega, rfl, by congr 1; have := HX.out; push_cast; omega, ?_, h3⟩
          rw [← HS.out, show k - 1 - j = x from by have := HX.out; omega, hb, setb_same _ _ _ HF.out]
          exact hp3
    · obtain rfl : j = k := by omega
      go_wp2
      go_ret
      exact ⟨rfl, hp, h2⟩

set_option maxRecDepth 100000 in
set_option maxHeartbeats 1000000 in
theorem front_no (g n F B : Nat) (O : Nat → Bool) (v : Nat) (k : Int) (w : World) (h : PadAt w g n F B O) (hv : v < 2 ^ 32) (hn : n ≤ 100000) (hB : F + B ≤ 8 * n) (he : putE (8 * n - F - B) v k ≠ 0) :
    Calls Try.prog 17 #[.pointer (some ⟨g + 1, 0, none⟩), .int .u32 v, .int .i64 k] w fun e w' => e = .returned (.int .i64 (putE (8 * n - F - B) v k)) ∧ ∃ k, w' = w.drewN k := by
  have T := write_any g n F B O v k w h hv hn hB
  generalize putE (8 * n - F - B) v k = err at T he
  have b1 : (err != 0) = true := bne_iff_ne.2 he
  clear he h
  go_enter Try.func17, Try.ntmps17
  go_wp2_with fail
  refine T.mono ?_
  rintro e w1 ⟨rfl, k1, rfl⟩
  go_wp2
  go_ret
  exact ⟨rfl, _, rfl⟩

set_option maxRecDepth 100000 in
set_option maxHeartbeats 1000000 in
theorem back_no (g n F B : Nat) (O : Nat → Bool) (v : Nat) (k : Int) (w : World) (h : PadAt w g n F B O) (hv : v < 2 ^ 32) (hn : n ≤ 100000) (hB : F + B ≤ 8 * n) (he : putE (8 * n - F - B) v k ≠ 0) :
    Calls Try.prog 16 #[.pointer (some ⟨g + 1, 0, none⟩), .int .u32 v, .int .i64 k] w fun e w' => e = .returned (.int .i64 (putE (8 * n - F - B) v k)) ∧ ∃ k, w' = w.drewN k := by
  have T := write_any g n F B O v k w h hv hn hB
  generalize putE (8 * n - F - B) v k = err at T he
  have b1 : (err != 0) = true := bne_iff_ne.2 he
  clear he h
  go_enter Try.func16, Try.ntmps16
  go_wp2_with fail
  refine T.mono ?_
  rintro e w1 ⟨rfl, k1, rfl⟩
  go_wp2
  go_ret
  exact ⟨rfl, _, rfl⟩

set_option maxRecDepth 100000 in
set_option maxHeartbeats 1000000 in
theorem back_any (g n F B : Nat) (O : Nat → Bool) (v : Nat) (k : Nat) (w : World) (h : PadAt w g n F B O) (hv : v < 2 ^ 32) (hn : n ≤ 100000) (hB : F + B ≤ 8 * n)
    (he : putE (8 * n - F - B) v k = 0) (hO : ∀ i, F ≤ i → i + B < 8 * n → O i = false) :
    Calls Try.prog 16 #[.pointer (some ⟨g + 1, 0, none⟩), .int .u32 v, .int .i64 k] w fun e w' => e = .returned (.int .i64 0) ∧ PadAt w' g n F (B + k) (putB O (8 * n) B k v) ∧ Two g w w' := by
  have T := write_any g n F B O v k w h hv hn hB
  rw [he] at T
  obtain ⟨hk32, hkL⟩ := putE_ok he
  have HO := Lib.hid hO
  clear he hO
  go_enter Try.func16, Try.ntmps16
  go_wp2_with fail
  refine T.mono ?_
  rintro e w1 ⟨rfl, k1, rfl⟩
  clear T
  have h1 := h.drew k1
  clear h
  go_wp2_with fail
  go_loopg [19] k (fun gk x W => ∃ j : Nat, j ≤ k ∧ gk = k - j ∧ x = .int .i64 j ∧ PadAt W g n F (B + j) (putB O (8 * n) B j v) ∧ Two g w W)
  case atStart => exact ⟨0, by omega, by omega, rfl, by rw [putB_zero]; exact h1, (Two.refl _ _).drew _⟩
  case round =>
    obtain ⟨j, hj, rfl, rfl, hp, h2⟩ := hrel
    by_cases hlt : j < k
    · have hx32 : j < 32 := by omega
      have c2 := hp.at_.c2
      go_wp2_with fail
      have hpos : 8 * n - 1 - (B + j) < 8 * n := by omega
      obtain ⟨q, hq⟩ : ∃ q, q = (8 * n - 1 - (B + j)) / 8 := ⟨_, rfl⟩
      have hqn : q < n := by omega
      obtain ⟨wt, hwt⟩ : ∃ wt, wt = 2 ^ (7 - (8 * n - 1 - (B + j)) % 8) := ⟨_, rfl⟩
      have hw8 : wt < 256 := by rw [hwt]; exact Nat.lt_of_le_of_lt (Nat.pow_le_pow_right (by decide) (show 7 - (8 * n - 1 - (B + j)) % 8 ≤ 7 by omega)) (by decide)
      have HQ := Lib.hid hq
      have HW := Lib.hid hwt
      clear hq hwt
      go_region_held3 (fun w' => w'.cell? ⟨g + 1, 2, none⟩ = some (.slice (some ⟨g, 0, none⟩) n n))
        (first | assumption | exact hp3.at_.c2)
        (first | (go_at_call 49; refine (behind_pad g n F (B + j) q wt _ _ (by first | exact hp.drew1 | exact hp) hn (by omega) HQ.out HW.out).mono ?_; rintro e w3 ⟨rfl, hp3, h3'⟩; have h3 : Two g w w3 := (by first | exact h2.drew1.trans h3' | exact h2.trans h3'); clear h3') | fail)
      have hfree : putB O (8 * n) B j v (8 * n - 1 - (B + j)) = false := (putB_free _ _ _ _ _ _ (by omega)).trans (HO.out _ (by omega) (by omega))
      have HS := Lib.hid (putB_succ O (8 * n) B j v (by omega))
      have HF := Lib.hid hfree
      clear hfree
      generalize putB O (8 * n) B j v = O' at hp3 HS HF
      obtain ⟨y1, y2⟩ := hp3.byte (8 * n - 1 - (B + j)) hpos
      have y3 := hp3.at_.c2
      have HB := Lib.hid (hp3.bit (8 * n - 1 - (B + j)) hpos)
      rw [← HQ.out] at y1 y2 HB
      have hby := byteN_lt O' q
      generalize byteN O' q = by_ at y1 HB hby
      rw [← HW.out] at HB
      clear c2
      have hbit := Lib.hid (bit_test v j hv hx32)
      have hor := Lib.hid (bits_or8 by_ wt hby hw8)
      cases hb : v.testBit j with
      | true =>
        have b1 := hbit.out
        rw [hb] at b1
        go_wp2
        go_roundg (k - (j + 1))
        case measure => omega
        case rel =>
          refine ⟨j + 1, by omega, rfl, by go_num, ?_, h3.set (.inl rfl) _ _⟩
          rw [hor.out, ← HS.out, hb]
          exact HB.out
      | false =>
        have b1 := hbit.out
        rw [hb] at b1
        go_wp2
        go_roundg (k - (j + 1))
        case measure => omega
        case rel =>
          refine ⟨j + 1, by omega, rfl, by go_num, ?_, h3⟩
          rw [← HS.out, hb, setb_same _ _ _ HF.out]
          exact hp3
    · obtain rfl : j = k := by omega
      go_wp2
      go_ret
      exact ⟨rfl, hp, h2⟩
end Go.Proofs.Ytcjnfdhdcoobgaa.Bit
