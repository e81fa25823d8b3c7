/- The walks of the package bits: what is read of an eye. -/
import Derived.Test.YtcjnfdhdcoobgaaBits3
set_option linter.unusedVariables false
set_option linter.unusedSimpArgs false
namespace Go.Proofs.Ytcjnfdhdcoobgaa.Bit
open Go.RowKit Go.Proofs.YtcjnfdhdcoobgaaW.PrintWords Go.Proofs.YtcjnfdhdcoobgaaW.PrintLast Go.Proofs.YtcjnfdhdcoobgaaW.PrintMore Go.Proofs.Ytcjnfdhdcoobgaa.Byt

/-- the call may change block b alone -/
def OnlyB (b : Nat) (w w' : World) : Prop := w.grownBy w' (some b)
theorem OnlyB.refl (b : Nat) (w : World) : OnlyB b w w := World.grownBy.refl w _
theorem OnlyB.set {b : Nat} {w w' : World} (h : OnlyB b w w') (o : Nat) (v : Value) : OnlyB b w (w'.setCell ⟨b, o, none⟩ v) :=
  ⟨h.os, h.tape, h.output, by simpa using h.size, fun k hk hne => (RowKit.Below.heap_setCell w' ⟨b, o, none⟩ v k (fun e => hne (by rw [e]))).trans (h.block k hk hne)⟩
theorem OnlyB.drew {b : Nat} {w w' : World} (h : OnlyB b w w') (n : Nat) : OnlyB b w (w'.drewN n) := ⟨h.os, h.tape, h.output, h.size, h.block⟩
theorem OnlyB.drew1 {b : Nat} {w w' : World} (h : OnlyB b w w') : OnlyB b w w'.drew := ⟨h.os, h.tape, h.output, h.size, h.block⟩
theorem OnlyB.trans {b : Nat} {w w1 w2 : World} (h : OnlyB b w w1) (k : OnlyB b w1 w2) : OnlyB b w w2 :=
  ⟨k.os.trans h.os, k.tape.trans h.tape, k.output.trans h.output, Nat.le_trans h.size k.size, fun i hi hne => (k.block i (Nat.lt_of_lt_of_le hi h.size) hne).trans (h.block i hi hne)⟩

set_option maxRecDepth 100000 in
set_option maxHeartbeats 400000 in
theorem one_any (b n F B : Nat) (O : Nat → Bool) (A : Option Addr) (c : Nat) (p q wt : Nat) (w : World) (h : EyeAt w b n F B O A c) (hp : p < 8 * n) (hq : q = p / 8) (hwt : wt = 2 ^ (7 - p % 8)) :
    Calls Try.prog 69 #[.pointer (some ⟨b, 0, none⟩), .int .i64 q, .int .u8 wt] w fun e w' => e = .returned (.int .u32 (((O p).toNat : Nat) : Int)) ∧ w' = w := by
  have c2 := h.at_.c2
  have hqn : q < n := by omega
  obtain ⟨ad, rfl, y1⟩ := h.byte q hqn
  have hw8 : wt < 256 := by rw [hwt]; exact Nat.lt_of_le_of_lt (Nat.pow_le_pow_right (by decide) (show 7 - p % 8 ≤ 7 by omega)) (by decide)
  have hpos : 0 < wt := by rw [hwt]; exact Nat.two_pow_pos _
  have hand : bits .and .u8 ((byteN O q : Nat) : Int) wt = (((O p).toNat * wt : Nat) : Int) := by
    rw [bits_and8 _ _ (byteN_lt O q) hw8, hq, hwt, byteN_and]
  generalize byteN O q = by_ at y1 hand
  have hz : (bits .and .u8 (by_ : Int) wt != 0) = O p := by
    rw [hand]
    cases O p with
    | true => simp only [Bool.toNat_true, Nat.one_mul]; rw [bne_iff_ne]; omega
    | false => simp
  clear hand hq hwt hp h
  cases hO : O p with
  | true =>
    rw [hO] at hz
    clear hO
    go_enter Try.func69, Try.ntmps69
    go_wp2
    go_ret
    exact ⟨rfl, rfl⟩
  | false =>
    rw [hO] at hz
    clear hO
    go_enter Try.func69, Try.ntmps69
    go_wp2
    go_ret
    exact ⟨rfl, rfl⟩

theorem ahead_eye (b n F B q wt : Nat) (O : Nat → Bool) (A : Option Addr) (c : Nat) (w : World) (h : EyeAt w b n F B O A c) (hF : F < 1000000) (hq : q = F / 8) (hwt : wt = 2 ^ (7 - F % 8)) :
    Calls Try.prog 50 #[.pointer (some ⟨b, 0, none⟩)] w fun e w' => e = .returned (.tuple #[.int .i64 q, .int .u8 wt]) ∧ EyeAt w' b n (F + 1) B O A c ∧ OnlyB b w w' :=
  (ahead_any b F B _ _ w h.at_ hF).mono fun e w' ⟨h1, k, h2⟩ => ⟨by rw [hq, hwt]; exact h1, by rw [h2]; exact (h.s0 (F + 1)).drew k, by rw [h2]; exact ((OnlyB.refl b w).set 0 _).drew k⟩
theorem behind_eye (b n F B q wt : Nat) (O : Nat → Bool) (A : Option Addr) (c : Nat) (w : World) (h : EyeAt w b n F B O A c) (hn : n ≤ 100000) (hB : B < 8 * n) (hq : q = (8 * n - 1 - B) / 8) (hwt : wt = 2 ^ (7 - (8 * n - 1 - B) % 8)) :
    Calls Try.prog 49 #[.pointer (some ⟨b, 0, none⟩), .int .i64 n] w fun e w' => e = .returned (.tuple #[.int .i64 q, .int .u8 wt]) ∧ EyeAt w' b n F (B + 1) O A c ∧ OnlyB b w w' :=
  (behind_any b F B n _ _ w h.at_ hn hB).mono fun e w' ⟨h1, k, h2⟩ => ⟨by rw [hq, hwt]; exact h1, by rw [h2]; exact (h.s1 (B + 1)).drew k, by rw [h2]; exact ((OnlyB.refl b w).set 1 _).drew k⟩

set_option maxRecDepth 100000 in
set_option maxHeartbeats 1000000 in
theorem efront_no (b n F B : Nat) (O : Nat → Bool) (A : Option Addr) (c : Nat) (k : Int) (w : World) (h : EyeAt w b n F B O A c) (hn : n ≤ 100000) (hB : F + B ≤ 8 * n) (he : mayE (8 * n - F - B) k ≠ 0) :
    Calls Try.prog 37 #[.pointer (some ⟨b, 0, none⟩), .int .i64 k] w fun e w' => e = .returned (.tuple #[.int .u32 0, .int .i64 (mayE (8 * n - F - B) k)]) ∧ ∃ k, w' = w.drewN k := by
  have T := fun i => may_any b F B n _ _ k (w.drewN i) h.at_ hn hB
  have c2 := h.at_.c2
  generalize mayE (8 * n - F - B) k = err at T he
  have b1 : (err != 0) = true := bne_iff_ne.2 he
  clear he h
  go_enter Try.func37, Try.ntmps37
  go_wp2
  go_quiet ((go_at_call 68; exact Calls.quiet_of (T _)))
  go_wp2
  go_ret2
  exact ⟨rfl, _, rfl⟩
set_option maxRecDepth 100000 in
set_option maxHeartbeats 1000000 in
theorem eback_no (b n F B : Nat) (O : Nat → Bool) (A : Option Addr) (c : Nat) (k : Int) (w : World) (h : EyeAt w b n F B O A c) (hn : n ≤ 100000) (hB : F + B ≤ 8 * n) (he : mayE (8 * n - F - B) k ≠ 0) :
    Calls Try.prog 36 #[.pointer (some ⟨b, 0, none⟩), .int .i64 k] w fun e w' => e = .returned (.tuple #[.int .u32 0, .int .i64 (mayE (8 * n - F - B) k)]) ∧ ∃ k, w' = w.drewN k := by
  have T := fun i => may_any b F B n _ _ k (w.drewN i) h.at_ hn hB
  have c2 := h.at_.c2
  generalize mayE (8 * n - F - B) k = err at T he
  have b1 : (err != 0) = true := bne_iff_ne.2 he
  clear he h
  go_enter Try.func36, Try.ntmps36
  go_wp2
  go_quiet ((go_at_call 68; exact Calls.quiet_of (T _)))
  go_wp2
  go_ret2
  exact ⟨rfl, _, rfl⟩

theorem or_low32 (V b : Nat) (hV : V < 2147483648) (hb : b ≤ 1) : bits .or .u32 ((V : Int) * 2) b = ((2 * V + b : Nat) : Int) := by
  have e : (V : Int) * 2 = ((2 * V : Nat) : Int) := by push_cast; omega
  rw [e, bits_or32 _ _ (by omega) (by omega), or_low _ _ hb]
theorem or_high32 (V k : Nat) (x : Bool) (hV : V < 2 ^ k) (hk : k < 32) : bits .or .u32 (V : Int) ((x.toNat * 2 ^ k : Nat) : Int) = ((V + x.toNat * 2 ^ k : Nat) : Int) := by
  have h1 : 2 ^ k ≤ 2 ^ 31 := Nat.pow_le_pow_right (by decide) (by omega)
  have h2 := toNat_le x
  have h3 : x.toNat * 2 ^ k ≤ 1 * 2 ^ k := Nat.mul_le_mul_right _ h2
  rw [bits_or32 _ _ (by omega) (by omega), or_high _ _ _ hV]
theorem or_high32w (V k : Nat) (x : Bool) (hV : V < 2 ^ k) (hk : k < 32) : bits .or .u32 (V : Int) (IntKind.u32.wrap ((x.toNat : Int) * 2 ^ k)) = ((V + x.toNat * 2 ^ k : Nat) : Int) := by
  have h1 : 2 ^ k ≤ 2 ^ 31 := Nat.pow_le_pow_right (by decide) (by omega)
  have h3 : x.toNat * 2 ^ k ≤ 1 * 2 ^ k := Nat.mul_le_mul_right _ (toNat_le x)
  have e : IntKind.u32.wrap ((x.toNat : Int) * 2 ^ k) = ((x.toNat * 2 ^ k : Nat) : Int) := by
    have e1 : (x.toNat : Int) * 2 ^ k = ((x.toNat * 2 ^ k : Nat) : Int) := by push_cast; rfl
    rw [e1, IntKind.wrap_u32]; omega
  rw [e, or_high32 V k x hV hk]
theorem mayE_ok {L : Nat} {k : Int} (h : mayE L k = 0) : 0 ≤ k ∧ k ≤ 32 ∧ k ≤ L := by
  unfold mayE at h
  split at h
  · cases h
  · split at h
    · cases h
    · omega

set_option maxRecDepth 100000 in
set_option maxHeartbeats 1000000 in
theorem efront_any (b n F B : Nat) (O : Nat → Bool) (A : Option Addr) (c : Nat) (k : Nat) (w : World) (h : EyeAt w b n F B O A c) (hn : n ≤ 100000) (hB : F + B ≤ 8 * n) (he : mayE (8 * n - F - B) k = 0) :
    Calls Try.prog 37 #[.pointer (some ⟨b, 0, none⟩), .int .i64 k] w fun e w' => e = .returned (.tuple #[.int .u32 ((readF O F k : Nat) : Int), .int .i64 0]) ∧ EyeAt w' b n (F + k) B O A c ∧ OnlyB b w w' := by
  have T := fun i => may_any b F B n _ _ k (w.drewN i) h.at_ hn hB
  have c2 := h.at_.c2
  rw [he] at T
  obtain ⟨-, hk32, hkL⟩ := mayE_ok he
  clear he
  go_enter Try.func37, Try.ntmps37
  go_wp2
  go_quiet ((go_at_call 68; exact Calls.quiet_of (T _)))
  have h1 := h.drew nq
  clear h T c2
  go_wp2
  go_loopg [7, 24] k (fun gk x i W => ∃ j V : Nat, j ≤ k ∧ gk = k - j ∧ i = .int .i64 j ∧ x = .int .u32 V ∧ V < 2 ^ j ∧ Hid (V = readF O F j) ∧ EyeAt W b n (F + j) B O A c ∧ OnlyB b w W)
  case atStart => exact ⟨0, 0, by omega, by omega, rfl, rfl, by decide, rfl, h1, (OnlyB.refl _ _).drew _⟩
  case round =>
    obtain ⟨j, V, hj, rfl, rfl, rfl, hV, HV, hp, h2⟩ := hrel
    by_cases hlt : j < k
    · obtain ⟨q, hq⟩ : ∃ q, q = (F + j) / 8 := ⟨_, rfl⟩
      obtain ⟨wt, hwt⟩ : ∃ wt, wt = 2 ^ (7 - (F + j) % 8) := ⟨_, rfl⟩
      have HQ := Lib.hid hq
      have HW := Lib.hid hwt
      have hpos : F + j < 8 * n := by omega
      have hV31 : V < 2147483648 := Nat.lt_of_lt_of_le hV (Nat.pow_le_pow_right (n := 2) (j := 31) (by decide) (by omega))
      have hnew : 2 * V + (O (F + j)).toNat < 2 ^ (j + 1) := by have := toNat_le (O (F + j)); rw [Nat.pow_succ]; omega
      clear hq hwt hV
      go_wp2_with fail
      refine (ahead_eye b n (F + j) B q wt O A c _ hp (by omega) HQ.out HW.out).mono ?_
      rintro e w3 ⟨rfl, hp3, h3⟩
      replace h3 := h2.trans h3
      go_wp2_with fail
      refine (one_any b n _ B O A c (F + j) q wt _ hp3 hpos HQ.out HW.out).mono ?_
      rintro e w4 ⟨rfl, rfl⟩
      have hO := toNat_le (O (F + j))
      have HR : Hid (readF O F (j + 1) = 2 * readF O F j + (O (F + j)).toNat) := rfl
      generalize (O (F + j)).toNat = bt_ at hO hnew HR
      have HE := Lib.hid (or_low32 V bt_ hV31 hO)
      go_wp2
      go_roundg (k - (j + 1))
      case measure => omega
      case rel => exact ⟨j + 1, 2 * V + bt_, by omega, rfl, by go_num, by rw [HE.out], hnew, by show 2 * V + bt_ = _; rw [HR.out, HV.out], hp3, h3⟩
    · obtain rfl : j = k := by omega
      go_wp2
      go_ret2
      exact ⟨ret_two (by rw [HV.out]) rfl, hp, h2⟩

set_option maxRecDepth 100000 in
set_option maxHeartbeats 1000000 in
theorem eback_any (b n F B : Nat) (O : Nat → Bool) (A : Option Addr) (c : Nat) (k : Nat) (w : World) (h : EyeAt w b n F B O A c) (hn : n ≤ 100000) (hB : F + B ≤ 8 * n) (he : mayE (8 * n - F - B) k = 0) :
    Calls Try.prog 36 #[.pointer (some ⟨b, 0, none⟩), .int .i64 k] w fun e w' => e = .returned (.tuple #[.int .u32 ((readB O (8 * n) B k : Nat) : Int), .int .i64 0]) ∧ EyeAt w' b n F (B + k) O A c ∧ OnlyB b w w' := by
  have T := fun i => may_any b F B n _ _ k (w.drewN i) h.at_ hn hB
  have c2 := h.at_.c2
  rw [he] at T
  obtain ⟨-, hk32, hkL⟩ := mayE_ok he
  clear he
  go_enter Try.func36, Try.ntmps36
  go_wp2
  go_quiet ((go_at_call 68; exact Calls.quiet_of (T _)))
  have h1 := h.drew nq
  clear h T c2
  go_wp2
  go_loopg [7, 25] k (fun gk x i W => ∃ j V : Nat, j ≤ k ∧ gk = k - j ∧ i = .int .i64 j ∧ x = .int .u32 V ∧ V < 2 ^ j ∧ Hid (V = readB O (8 * n) B j) ∧ EyeAt W b n F (B + j) O A c ∧ OnlyB b w W)
  case atStart => exact ⟨0, 0, by omega, by omega, rfl, rfl, by decide, rfl, h1, (OnlyB.refl _ _).drew _⟩
  case round =>
    obtain ⟨j, V, hj, rfl, rfl, rfl, hV, HV, hp, h2⟩ := hrel
    by_cases hlt : j < k
    · obtain ⟨q, hq⟩ : ∃ q, q = (8 * n - 1 - (B + j)) / 8 := ⟨_, rfl⟩
      obtain ⟨wt, hwt⟩ : ∃ wt, wt = 2 ^ (7 - (8 * n - 1 - (B + j)) % 8) := ⟨_, rfl⟩
      have HQ := Lib.hid hq
      have HW := Lib.hid hwt
      have hpos : 8 * n - 1 - (B + j) < 8 * n := by omega
      have hj32 : j < 32 := by omega
      have c2 := hp.at_.c2
      have HVj := Lib.hid hV
      clear hq hwt hV
      have HR : Hid (readB O (8 * n) B (j + 1) = readB O (8 * n) B j + (O (8 * n - 1 - (B + j))).toNat * 2 ^ j) := rfl
      have HL := Lib.hid (readB_lt O (8 * n) B (j + 1))
      go_wp2_with fail
      go_region_held3 (fun w' => w'.cell? ⟨b, 2, none⟩ = some (.slice A n c))
        (first | assumption | exact c2 | exact hp3.at_.c2)
        (first
          | (go_at_call 49; refine (behind_eye b n F (B + j) q wt O A c _ (by first | exact hp.drew1 | exact hp) hn (by omega) HQ.out HW.out).mono ?_; rintro e w3 ⟨rfl, hp3, h3'⟩; have h3 : OnlyB b w w3 := (by first | exact h2.drew1.trans h3' | exact h2.trans h3'); clear h3')
          | (go_at_call 69; refine (one_any b n _ _ O A c (8 * n - 1 - (B + j)) q wt _ hp3 hpos HQ.out HW.out).mono ?_; rintro e w4 ⟨rfl, rfl⟩)
          | fail)
      go_wp2
      go_roundg (k - (j + 1))
      case measure => omega
      case rel => exact ⟨j + 1, V + (O (8 * n - 1 - (B + j))).toNat * 2 ^ j, by omega, rfl, by go_num, by rw [or_high32w V j _ HVj.out hj32], by have h5 := HR.out; rw [← HV.out] at h5; rw [← h5]; exact HL.out, by show _ = readB _ _ _ (j + 1); rw [HR.out, HV.out], hp3, h3⟩
    · obtain rfl : j = k := by omega
      go_wp2
      go_ret2
      exact ⟨ret_two (by rw [HV.out]) rfl, hp, h2⟩

set_option maxHeartbeats 400000 in
theorem efront_nil (k : Int) (w : World) :
    Calls Try.prog 37 #[.pointer none, .int .i64 k] w fun e w' => e = .returned (.tuple #[.int .u32 0, .int .i64 3]) ∧ w' = w := by
  go_enter Try.func37, Try.ntmps37
  go_wp2
  go_ret2
  exact ⟨rfl, rfl⟩
set_option maxHeartbeats 400000 in
theorem eback_nil (k : Int) (w : World) :
    Calls Try.prog 36 #[.pointer none, .int .i64 k] w fun e w' => e = .returned (.tuple #[.int .u32 0, .int .i64 3]) ∧ w' = w := by
  go_enter Try.func36, Try.ntmps36
  go_wp2
  go_ret2
  exact ⟨rfl, rfl⟩
set_option maxHeartbeats 400000 in
theorem eleft_nil (w : World) :
    Calls Try.prog 38 #[.pointer none] w fun e w' => e = .returned (.int .i64 0) ∧ w' = w := by
  go_enter Try.func38, Try.ntmps38
  go_wp2
  go_ret
  exact ⟨rfl, rfl⟩
set_option maxHeartbeats 400000 in
theorem used_nil (w : World) :
    Calls Try.prog 46 #[.pointer none] w fun e w' => e = .returned (.tuple #[.int .i64 0, .int .i64 0]) ∧ w' = w := by
  go_enter Try.func46, Try.ntmps46
  go_wp2
  go_ret2
  exact ⟨rfl, rfl⟩
set_option maxHeartbeats 400000 in
theorem bit_nil (k : Int) (w : World) :
    Calls Try.prog 47 #[.pointer none, .int .i64 k] w fun e w' => e = .returned (.int .i64 0) ∧ w' = w := by
  go_enter Try.func47, Try.ntmps47
  go_wp2
  go_ret
  exact ⟨rfl, rfl⟩
set_option maxRecDepth 100000 in
set_option maxHeartbeats 400000 in
theorem eleft_any (b n F B : Nat) (O : Nat → Bool) (A : Option Addr) (c : Nat) (w : World) (h : EyeAt w b n F B O A c) (hn : n ≤ 100000) (hB : F + B ≤ 8 * n) :
    Calls Try.prog 38 #[.pointer (some ⟨b, 0, none⟩)] w fun e w' => e = .returned (.int .i64 ((8 * n - F - B : Nat) : Int)) ∧ ∃ k, w' = w.drewN k := by
  have T := fun i => left_any b F B n _ _ (w.drewN i) h.at_ hn hB
  have c2 := h.at_.c2
  clear h
  generalize 8 * n - F - B = L at T
  go_enter Try.func38, Try.ntmps38
  go_wp2
  go_quiet ((go_at_call 53; exact Calls.quiet_of (T _)))
  go_wp2
  go_ret
  exact ⟨rfl, _, rfl⟩
set_option maxRecDepth 100000 in
set_option maxHeartbeats 400000 in
theorem used_any (b n F B : Nat) (O : Nat → Bool) (A : Option Addr) (c : Nat) (w : World) (h : EyeAt w b n F B O A c) :
    Calls Try.prog 46 #[.pointer (some ⟨b, 0, none⟩)] w fun e w' => e = .returned (.tuple #[.int .i64 F, .int .i64 B]) ∧ ∃ k, w' = w.drewN k := by
  have c0 := h.at_.c0
  have c1 := h.at_.c1
  clear h
  go_enter Try.func46, Try.ntmps46
  go_wp2
  go_quiet (fail)
  go_wp2
  go_ret2
  exact ⟨rfl, _, rfl⟩
/-- the bit at a place, 0 beyond -/
def bitI (O : Nat → Bool) (n : Nat) (i : Int) : Int := if 0 ≤ i ∧ i < 8 * (n : Int) then ((O i.toNat).toNat : Int) else 0
set_option maxRecDepth 100000 in
set_option maxHeartbeats 400000 in
theorem bit_any (b n F B : Nat) (O : Nat → Bool) (A : Option Addr) (c : Nat) (i : Int) (w : World) (h : EyeAt w b n F B O A c) (hn : n ≤ 100000) (hi : i ≤ 9223372036854775807) :
    Calls Try.prog 47 #[.pointer (some ⟨b, 0, none⟩), .int .i64 i] w fun e w' => e = .returned (.int .i64 (bitI O n i)) ∧ ∃ k, w' = w.drewN k := by
  have c2 := h.at_.c2
  by_cases h0 : 0 ≤ i
  · by_cases h1 : i < 8 * (n : Int)
    · obtain ⟨p, rfl⟩ := Int.eq_ofNat_of_zero_le h0
      have e : bitI O n (p : Int) = ((O p).toNat : Int) := if_pos ⟨h0, h1⟩
      rw [e]
      clear e
      have T := one_any b n F B O A c p (p / 8) (2 ^ (7 - p % 8)) w h (by omega) rfl rfl
      obtain ⟨wt, hwt⟩ : ∃ wt, wt = 2 ^ (7 - p % 8) := ⟨_, rfl⟩
      have e1 : (128 : Int) / 2 ^ (p % 8) = (wt : Int) := by rw [wt_shr _ (by omega), hwt]
      rw [← hwt] at T
      have e2 : ((p / 8 : Nat) : Int) = (p : Int) / 8 := by omega
      rw [e2] at T
      have hb := toNat_le (O p)
      generalize (O p).toNat = bt_ at T hb
      have E1 := Lib.hid e1
      clear hwt e1 e2 h
      go_enter Try.func47, Try.ntmps47
      go_wp2_with fail
      rw [E1.out]
      refine T.mono ?_
      rintro e w1 ⟨rfl, rfl⟩
      go_wp2
      go_ret
      exact ⟨rfl, 0, rfl⟩
    · have e : bitI O n i = 0 := if_neg (by omega)
      rw [e]
      clear e h
      go_enter Try.func47, Try.ntmps47
      go_wp2
      go_ret
      exact ⟨rfl, 0, rfl⟩
  · have e : bitI O n i = 0 := if_neg (by omega)
    rw [e]
    clear e h
    go_enter Try.func47, Try.ntmps47
    go_wp2
    go_ret
    exact ⟨rfl, 0, rfl⟩

set_option maxRecDepth 100000 in
set_option maxHeartbeats 400000 in
theorem open_yes (A : Option Addr) (n c : Nat) (O : Nat → Bool) (w : World) (hn : n ≤ 512) (hr : ReadsInt w .u8 A n (bytesL O n)) :
    Calls Try.prog 35 #[.slice A n c] w fun e w' => ∃ b A' c', e = .returned (.tuple #[.pointer (some ⟨b, 0, none⟩), .int .i64 0]) ∧ EyeAt w' b n 0 0 O A' c' ∧ Below w.heap.size w w' ∧ w.heap.size ≤ b := by
  have T := clone_any A n c _ w (by rw [bytesL_length]; omega) hr
  clear hr
  go_enter Try.func35, Try.ntmps35
  go_wp2_with fail
  refine T.mono ?_
  rintro e w1 ⟨v, rfl, hown, hb⟩
  obtain ⟨A', c', rfl, hr'⟩ := own_reads hown
  have hlt := own_lt hown
  rw [bytesL_length] at hr' hlt ⊢
  have HLT := Lib.hid hlt
  have HR := Lib.hid hr'
  clear hlt hown hr' T
  go_wp2
  go_ret2
  refine ⟨_, A', c', rfl, ⟨?_, HR.out.below (ba (br _) _), fun ad e => ?_⟩, ba hb _, hb.size⟩
  · unfold EndsAt; rw [heap_alloc_new]; rfl
  · subst e
    have := HLT.out ad.block rfl
    omega
set_option maxRecDepth 100000 in
set_option maxHeartbeats 400000 in
theorem open_long (A : Option Addr) (n c : Nat) (w : World) (hn : 512 < n) (hn2 : n ≤ 140737488351232) :
    Calls Try.prog 35 #[.slice A n c] w fun e w' => e = .returned (.tuple #[.pointer none, .int .i64 2]) ∧ w' = w := by
  go_enter Try.func35, Try.ntmps35
  go_wp2
  go_ret2
  exact ⟨rfl, rfl⟩
end Go.Proofs.Ytcjnfdhdcoobgaa.Bit
