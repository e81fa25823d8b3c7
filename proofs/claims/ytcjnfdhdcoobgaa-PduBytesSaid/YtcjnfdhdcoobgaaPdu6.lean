/- The walk of the document's Spoil, and of the law's alive. -/
import Derived.Test.YtcjnfdhdcoobgaaPdu5
import Derived.Test.YtcjnfdhdcoobgaaBRow
set_option linter.unusedVariables false
set_option linter.unusedSimpArgs false
namespace Go.Proofs.Ytcjnfdhdcoobgaa.Pdu
open Go.RowKit Go.Proofs.YtcjnfdhdcoobgaaW.PrintWords Go.Proofs.YtcjnfdhdcoobgaaW.PrintLast Go.Proofs.YtcjnfdhdcoobgaaW.PrintMore Go.Proofs.Ytcjnfdhdcoobgaa.Chk

set_option maxRecDepth 100000 in
set_option maxHeartbeats 1000000 in
theorem rspoil_any (M : List Int) (a : Int) (m : Nat) (w : World) (hn : M.length ≤ 4096) (hM : Bytes M) (hm : m < 2 ^ 32) :
    Calls Try.prog 29 #[.string (strOfNums M), .int .i64 a, .int .u32 m] w fun e w' => e = .returned (.string (strOfNums (spoil M a m))) ∧ Below w.heap.size w w' := by
  have kb := fun W : World => print_bytes (P := Try.prog) 9 37 5 Try.underlying9 Try.underlying37 Try.underlying5 (strOfNums M) W
  have hsz := strOfNums_size M
  have HM := Lib.hid hM
  have hB0 : Hid (BRow (Lib.bytesWorld w 5 (strOfNums M)) w.heap.size M) := by have := BRow.of w (strOfNums M); rw [bytesOf_str hM] at this; exact this
  have hbel := bytes_below (br w) (Nat.le_refl _) 5 (strOfNums M)
  clear hM
  by_cases h3 : M.length < 3
  · have e : spoil M a m = M := if_pos h3
    rw [e]
    clear e
    generalize strOfNums M = s at kb hsz hbel
    have hs3 : s.size < 3 := by omega
    clear hsz hB0
    go_enter Try.func29, Try.ntmps29
    go_wp2
    go_ret
    exact ⟨rfl, hbel⟩
  · have e : spoil M a m = spoilL M (firstN a M.length) (mx m) 24 := if_neg h3
    rw [e]
    clear e
    have hF := firstN_lt a M.length (by omega)
    have hFe : Hid (((firstN a M.length : Nat) : Int) = (a % 18446744073709551616) % ((8 * M.length - 23 : Nat) : Int)) := by
      show _ = _
      unfold firstN
      have := Int.emod_nonneg (a % 18446744073709551616) (show ((8 * M.length - 23 : Nat) : Int) ≠ 0 by omega)
      omega
    generalize firstN a M.length = F at hF hFe
    obtain ⟨s, hs⟩ : ∃ s, s = strOfNums M := ⟨_, rfl⟩
    rw [← hs] at kb hsz hbel hB0 ⊢
    obtain ⟨n, hn'⟩ : ∃ n, n = s.size := ⟨_, rfl⟩
    have HN : Hid (n = M.length) := by rw [hn']; exact hsz
    have hnM : n = M.length := HN.out
    rw [← hnM] at hF hFe hn h3
    rw [← hn'] at kb
    clear hsz hn' hs
    have eF : wrap64 ((IntKind.u64.wrap a).tmod (8 * (n : Int) - 23)) = (F : Int) := by
      have h1 := hFe.out
      rw [show ((8 * n - 23 : Nat) : Int) = 8 * (n : Int) - 23 from by omega] at h1
      rw [IntKind.wrap_u64, Int.tmod_eq_emod_of_nonneg (by omega), ← h1]
      unfold wrap64
      omega
    have h24 : F + 24 ≤ 8 * n := by omega
    have hnn : ¬ n < 3 := h3
    clear hnM
    go_enter Try.func29, Try.ntmps29
    go_wp2
    go_outline
    rw [eF]
    clear eF
    go_loopg [9] 24 (fun gk x W => ∃ k : Nat, k ≤ 24 ∧ gk = 24 - k ∧ x = .int .i64 k ∧ BRow W w.heap.size (spoilL M F (mx m) k) ∧ Below w.heap.size w W)
    case atStart => exact ⟨0, by omega, by omega, rfl, hB0.out, hbel⟩
    case round =>
      obtain ⟨k, hk, rfl, rfl, hrow, hb⟩ := hrel
      have HLn : Hid ((spoilL M F (mx m) k).length = n) := by show _ = n; rw [spoilL_length]; exact HN.out.symm
      by_cases hlt : k < 24
      · have hB := Lib.hid (spoilL_byte HM.out F (mx m))
        have b1 : (((m : Int) / 2 ^ (23 - k)).tmod 2 == 1) = decide (mx m k = 1) := by
          have e : ((m : Int) / 2 ^ (23 - k)) = ((m / 2 ^ (23 - k) : Nat) : Int) := by push_cast; rfl
          rw [e, Int.tmod_eq_emod_of_nonneg (Int.natCast_nonneg _)]
          unfold mx
          generalize m / 2 ^ (23 - k) = q
          by_cases h : q % 2 = 1
          · rw [decide_eq_true h, beq_iff_eq]; omega
          · rw [decide_eq_false h, beq_eq_false_iff_ne]; omega
        by_cases h1 : mx m k = 1
        · rw [decide_eq_true h1] at b1
          obtain ⟨p, hp⟩ : ∃ p, p = F + k := ⟨_, rfl⟩
          have e1 : (F : Int) + k = (p : Int) := by omega
          obtain ⟨q, hq⟩ : ∃ q, q = p / 8 := ⟨_, rfl⟩
          obtain ⟨r, hr⟩ : ∃ r, r = p % 8 := ⟨_, rfl⟩
          have hqn : q < n := by omega
          have hr8 : r < 8 := by omega
          obtain ⟨y1, y2⟩ := hrow.cell q (by rw [HLn.out]; exact hqn)
          have hby := rd_byte (hB.out k) (q : Int)
          obtain ⟨by_, hbe⟩ := Int.eq_ofNat_of_zero_le hby.1
          have hb8 : by_ < 256 := by omega
          have hx8 : Hid (bits .xor .u8 (by_ : Int) (128 / 2 ^ r) = ((by_ ^^^ 2 ^ (7 - r) : Nat) : Int)) := xor8 by_ r hb8 hr8
          have h2r : Hid ((2 : Int) ^ (7 - r) % 256 = 128 / 2 ^ r) := by
            show _ = _
            have : r = 0 ∨ r = 1 ∨ r = 2 ∨ r = 3 ∨ r = 4 ∨ r = 5 ∨ r = 6 ∨ r = 7 := by omega
            rcases this with rfl | rfl | rfl | rfl | rfl | rfl | rfl | rfl <;> rfl
          have HNX : Hid (spoilL M F (mx m) (k + 1) = (spoilL M F (mx m) k).set q ((by_ ^^^ 2 ^ (7 - r) : Nat) : Int)) := by
            show (if mx m k = 1 then _ else _) = _
            rw [if_pos h1, ← hp, ← hq, ← hr, hbe, Int.toNat_natCast]
          have HST := Lib.hid (fun x => hrow.set q (by rw [HLn.out]; exact hqn) x)
          rw [hbe] at y1
          have e2 : (p : Int) / 8 = (q : Int) := by omega
          have e3 : (p : Int) % 8 = (r : Int) := by omega
          have hp5 : p < 40000 := by omega
          clear hp hq hr h1 hby hbe
          go_wp2
          rw [h2r.out, hx8.out]
          go_roundg (24 - (k + 1))
          case measure => omega
          case rel => exact ⟨k + 1, by omega, rfl, by go_num, by rw [HNX.out]; exact HST.out _, hb.setCell (p := ⟨w.heap.size, q, none⟩) (Nat.le_refl _) _⟩
        · rw [decide_eq_false h1] at b1
          have HNX : Hid (spoilL M F (mx m) (k + 1) = spoilL M F (mx m) k) := by show (if mx m k = 1 then _ else _) = _; rw [if_neg h1]
          clear h1
          go_wp2
          go_roundg (24 - (k + 1))
          case measure => omega
          case rel => exact ⟨k + 1, by omega, rfl, by go_num, by rw [HNX.out]; exact hrow, hb⟩
      · obtain rfl : k = 24 := by omega
        have hcv := string_of_reads (P := Try.prog) (c := grownCap w n 0 5) (dst := 9) Try.underlying37 Try.underlying5 Try.underlying9 (hrow.reads (by rw [HLn.out]; omega))
        rw [HLn.out] at hcv
        go_wp2
        go_ret
        exact ⟨rfl, hb⟩
end Go.Proofs.Ytcjnfdhdcoobgaa.Pdu
