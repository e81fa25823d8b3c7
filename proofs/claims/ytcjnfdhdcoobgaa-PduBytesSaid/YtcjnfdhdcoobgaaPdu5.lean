/- The walks of both Spoils. -/
import Derived.Test.YtcjnfdhdcoobgaaPdu3
import Derived.Test.YtcjnfdhdcoobgaaKTurn
set_option linter.unusedVariables false
set_option linter.unusedSimpArgs false
namespace Go.Proofs.Ytcjnfdhdcoobgaa.Pdu
open Go.RowKit Go.Proofs.YtcjnfdhdcoobgaaW.PrintWords Go.Proofs.YtcjnfdhdcoobgaaW.PrintLast Go.Proofs.YtcjnfdhdcoobgaaW.PrintMore Go.Proofs.Ytcjnfdhdcoobgaa.Chk

/-- the first k of the bits x turned, from bit F on -/
def spoilL (M : List Int) (F : Nat) (x : Nat → Nat) : Nat → List Int
  | 0 => M
  | k + 1 => if x k = 1 then (spoilL M F x k).set ((F + k) / 8) (((rd (spoilL M F x k) (((F + k) / 8 : Nat) : Int)).toNat ^^^ 2 ^ (7 - (F + k) % 8) : Nat) : Int) else spoilL M F x k
theorem spoilL_length (M : List Int) (F : Nat) (x : Nat → Nat) : ∀ k, (spoilL M F x k).length = M.length
  | 0 => rfl
  | k + 1 => by simp only [spoilL]; split; rw [List.length_set, spoilL_length M F x k]; exact spoilL_length M F x k
theorem spoilL_byte {M : List Int} (h : Bytes M) (F : Nat) (x : Nat → Nat) : ∀ k, Bytes (spoilL M F x k)
  | 0 => h
  | k + 1 => by
    have ih := spoilL_byte h F x k
    simp only [spoilL]
    split
    · intro y hy
      rcases List.mem_or_eq_of_mem_set hy with h | rfl
      · exact ih y h
      · have hb := rd_byte ih (((F + k) / 8 : Nat) : Int)
        have hp : 2 ^ (7 - (F + k) % 8) < 2 ^ 8 := Nat.pow_lt_pow_right (by decide) (by omega)
        have := Nat.xor_lt_two_pow (n := 8) (x := (rd (spoilL M F x k) (((F + k) / 8 : Nat) : Int)).toNat) (by omega) hp
        omega
    · exact ih
theorem spoilL_bits {M : List Int} (h : Bytes M) {F : Nat} {x : Nat → Nat} (hx : ∀ j, x j < 2) : ∀ k, F + k ≤ 8 * M.length → ∀ j, bitAt (spoilL M F x k) j = bitAt M j ^^^ (if F ≤ j ∧ j < F + k then x (j - F) else 0)
  | 0, _, j => by rw [if_neg (by omega), Nat.xor_zero]; rfl
  | k + 1, hk, j => by
    have ih := spoilL_bits h (F := F) hx k (by omega) j
    have hby := spoilL_byte h F x k
    have hb := rd_byte hby (((F + k) / 8 : Nat) : Int)
    simp only [spoilL]
    by_cases h1 : x k = 1
    · rw [if_pos h1, flip_bit _ (F + k) j (rd (spoilL M F x k) (((F + k) / 8 : Nat) : Int)).toNat (by rw [spoilL_length]; omega) (by omega), ih, Nat.xor_assoc]
      congr 1
      by_cases e : j = F + k
      · rw [if_pos e, if_neg (by omega), if_pos (by omega), show j - F = k from by omega, h1]; rfl
      · rw [if_neg e, Nat.xor_zero]
        by_cases e2 : F ≤ j ∧ j < F + k
        · rw [if_pos e2, if_pos (by omega)]
        · rw [if_neg e2, if_neg (by omega)]
    · rw [if_neg h1, ih]
      congr 1
      by_cases e : j = F + k
      · rw [if_neg (by omega), if_pos (by omega), show j - F = k from by omega]
        have := hx k; omega
      · by_cases e2 : F ≤ j ∧ j < F + k
        · rw [if_pos e2, if_pos (by omega)]
        · rw [if_neg e2, if_neg (by omega)]

/-- a mask's bit, of the 24 low ones the highest first -/
def mx (M : Nat) (k : Nat) : Nat := M / 2 ^ (23 - k) % 2
theorem mx_lt (M k : Nat) : mx M k < 2 := by unfold mx; omega
/-- where the first bit stands -/
def firstN (a : Int) (n : Nat) : Nat := ((a % 18446744073709551616) % ((8 * n - 23 : Nat) : Int)).toNat
/-- what becomes of bytes -/
def spoil (M : List Int) (a : Int) (m : Nat) : List Int := if M.length < 3 then M else spoilL M (firstN a M.length) (mx m) 24
theorem firstN_lt (a : Int) (n : Nat) (h : 3 ≤ n) : firstN a n < 8 * n - 23 := by
  unfold firstN
  have h1 : (0 : Int) < ((8 * n - 23 : Nat) : Int) := by omega
  have := Int.emod_lt_of_pos (a % 18446744073709551616) h1
  have := Int.emod_nonneg (a % 18446744073709551616) (show ((8 * n - 23 : Nat) : Int) ≠ 0 by omega)
  omega

theorem own_pos {w : World} {base n size : Nat} {e : TypeId} {v : Value} {xs : List Value} (h : w.ownsRow base e size v n xs) (hn : 0 < n) : ∃ g cap, v = .slice (some ⟨g, 0, none⟩) n cap ∧ n ≤ cap ∧ base ≤ g := by
  rcases h.2 with ⟨-, h2⟩ | ⟨g, cap, cur, h1, h2, -, h3, -⟩
  · omega
  · exact ⟨g, cap, h1, h3, h2⟩
theorem mx_test (m k s : Nat) (hm : m < 2 ^ 32) (hs : s = 23 - k) : (bits .and .u32 ((m : Int) / 2 ^ s) 1 == 1) = decide (mx m k = 1) := by
  have e : ((m : Int) / 2 ^ s) = ((m / 2 ^ s : Nat) : Int) := by push_cast; rfl
  have h0 : m / 2 ^ s < 4294967296 := Nat.lt_of_le_of_lt (Nat.div_le_self _ _) hm
  have h1 := and_mask ((m / 2 ^ s : Nat) : Int) 1 (by decide) (Int.natCast_nonneg _) (by exact_mod_cast h0)
  have e2 : (2 : Int) ^ 1 - 1 = 1 := by decide
  rw [e2] at h1
  rw [e, h1]
  unfold mx
  rw [← hs]
  generalize m / 2 ^ s = q
  by_cases h : q % 2 = 1
  · rw [decide_eq_true h]; rw [beq_iff_eq]; omega
  · rw [decide_eq_false h]; rw [beq_eq_false_iff_ne]; omega

set_option maxRecDepth 100000 in
set_option maxHeartbeats 1000000 in
theorem spoil_any (A : Option Addr) (n c : Nat) (M : List Int) (a : Int) (m : Nat) (w : World) (hn : M.length ≤ 4096) (hM : Bytes M) (hm : m < 2 ^ 32) (hr : ReadsInt w .u8 A n M) :
    Calls Try.prog 28 #[.slice A n c, .int .i64 a, .int .u32 m] w (Row8 (spoil M a m) w) := by
  obtain rfl := hr.1
  have T := clone_any A M.length c M w (by omega) hr
  have HM := Lib.hid hM
  clear hM hr
  by_cases h3 : M.length < 3
  · have e : spoil M a m = M := if_pos h3
    rw [e]
    clear e
    go_enter Try.func28, Try.ntmps28
    go_wp2_with fail
    refine T.mono ?_
    rintro e w1 ⟨v, rfl, hown, hb⟩
    obtain ⟨A1, c1, rfl⟩ := own_slice hown
    go_wp2
    go_ret
    exact ⟨_, rfl, hown, hb⟩
  · have e : spoil M a m = spoilL M (firstN a M.length) (mx m) 24 := if_neg h3
    rw [e]
    clear e
    have hF := firstN_lt a M.length (by omega)
    have hFe : Hid (((firstN a M.length : Nat) : Int) = (a % 18446744073709551616) % ((8 * M.length - 23 : Nat) : Int)) := by
      show _ = _
      unfold firstN
      have := Int.emod_nonneg (a % 18446744073709551616) (show ((8 * M.length - 23 : Nat) : Int) ≠ 0 by omega)
      omega
    generalize firstN a M.length = F at hF hFe
    obtain ⟨n, hn'⟩ : ∃ n, n = M.length := ⟨_, rfl⟩
    have HN := Lib.hid hn'
    rw [← hn'] at hF hFe hn h3 T ⊢
    have eF : wrap64 ((IntKind.u64.wrap a).tmod (8 * (n : Int) - 23)) = (F : Int) := by
      have h1 := hFe.out
      rw [show ((8 * n - 23 : Nat) : Int) = 8 * (n : Int) - 23 from by omega] at h1
      rw [IntKind.wrap_u64, Int.tmod_eq_emod_of_nonneg (by omega), ← h1]
      unfold wrap64
      omega
    clear hn'
    go_enter Try.func28, Try.ntmps28
    go_wp2_with fail
    refine T.mono ?_
    rintro e w1 ⟨v, rfl, hown, hb⟩
    rw [← HN.out] at hown
    obtain ⟨g, c1, rfl, hc1, hgb⟩ := own_pos hown (by omega)
    clear T
    have h24 : F + 24 ≤ 8 * n := by omega
    go_wp2
    rw [eF]
    clear eF
    go_loopg [25] 24 (fun gk x W => ∃ k : Nat, k ≤ 24 ∧ gk = 24 - k ∧ x = .int .i64 k ∧ W.ownsRow w.heap.size 5 1 (.slice (some ⟨g, 0, none⟩) n c1) n (nums .u8 (spoilL M F (mx m) k)) ∧ Below w.heap.size w W)
    case atStart => exact ⟨0, by omega, by omega, rfl, hown, hb⟩
    case round =>
      clear hown hb
      obtain ⟨k, hk, rfl, rfl, hown, hb⟩ := hrel
      by_cases hlt : k < 24
      · have b1 := mx_test m k (23 - k) hm rfl
        have hB := Lib.hid (spoilL_byte HM.out F (mx m))
        by_cases h1 : mx m k = 1
        · rw [decide_eq_true h1] at b1
          obtain ⟨p, hp⟩ : ∃ p, p = F + k := ⟨_, rfl⟩
          obtain ⟨q, hq⟩ : ∃ q, q = p / 8 := ⟨_, rfl⟩
          obtain ⟨r, hr⟩ : ∃ r, r = p % 8 := ⟨_, rfl⟩
          have hqn : q < n := by omega
          have hr8 : r < 8 := by omega
          obtain ⟨y1, y2⟩ := own_at hown (q : Int) (by omega) (by omega)
          rw [Int.toNat_natCast] at y1 y2
          have hby := rd_byte (hB.out k) (q : Int)
          obtain ⟨by_, hbe⟩ := Int.eq_ofNat_of_zero_le hby.1
          have hb8 : by_ < 256 := by omega
          have HX := Lib.hid (xor8 by_ r hb8 hr8)
          have HNX : Hid (spoilL M F (mx m) (k + 1) = (spoilL M F (mx m) k).set q ((by_ ^^^ 2 ^ (7 - r) : Nat) : Int)) := by
            show (if mx m k = 1 then _ else _) = _
            rw [if_pos h1, ← hp, ← hq, ← hr, hbe, Int.toNat_natCast]
          have HST := Lib.hid (fun x => own_store hown (q : Int) x)
          rw [hbe] at y1
          have e1 : IntKind.i64.wrap ((F : Int) + k) = (p : Int) := by rw [IntWalk.i64_in _ (by omega)]; omega
          have e2 : IntKind.i64.wrap ((p : Int) / 8) = (q : Int) := by rw [IntWalk.i64_in _ (by omega)]; omega
          have e3 : ((p : Int)).tmod 8 = (r : Int) := by rw [Int.tmod_eq_emod_of_nonneg (by omega)]; omega
          have e4 : ((p : Int)).tdiv 8 = (q : Int) := by rw [Int.tdiv_eq_ediv_of_nonneg (by omega)]; omega
          have e5 : ((p : Int)) / 8 = (q : Int) := by omega
          have e7 : IntKind.i64.wrap (q : Int) = (q : Int) := IntWalk.i64_in _ (by omega)
          have e8 : IntKind.i64.wrap (r : Int) = (r : Int) := IntWalk.i64_in _ (by omega)
          clear hp hq hr h1 hby hbe
          go_wp2
          go_still_tail 14, (by kernel_rfl)
          change wpList _ _ _ _ _ wr.drew
          go_wp2
          go_roundg (24 - (k + 1))
          case measure => omega
          case rel =>
            refine ⟨k + 1, by omega, rfl, by go_num, ?_, below_drew (hb.setCell (p := ⟨g, q, none⟩) hgb _)⟩
            rw [HNX.out, HX.out]
            have := (HST.out ((by_ ^^^ 2 ^ (7 - r) : Nat) : Int)).1
            rw [Int.toNat_natCast] at this
            exact own_move this fun _ _ => rfl
        · rw [decide_eq_false h1] at b1
          have HNX : Hid (spoilL M F (mx m) (k + 1) = spoilL M F (mx m) k) := by show (if mx m k = 1 then _ else _) = _; rw [if_neg h1]
          clear h1
          go_wp2
          go_roundg (24 - (k + 1))
          case measure => omega
          case rel => exact ⟨k + 1, by omega, rfl, by go_num, by rw [HNX.out]; exact hown, hb⟩
      · obtain rfl : k = 24 := by omega
        go_wp2
        go_ret
        exact ⟨_, rfl, by rw [spoilL_length, ← HN.out]; exact hown, hb⟩
end Go.Proofs.Ytcjnfdhdcoobgaa.Pdu
