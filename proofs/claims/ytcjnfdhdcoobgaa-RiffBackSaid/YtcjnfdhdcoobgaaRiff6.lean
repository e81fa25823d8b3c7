/- The walks of the document's riff: second, low, number. -/
import Derived.Test.YtcjnfdhdcoobgaaRiff5
set_option linter.unusedVariables false
set_option linter.unusedSimpArgs false
namespace Go.Proofs.Ytcjnfdhdcoobgaa.Rif
open Go.RowKit Go.Proofs.YtcjnfdhdcoobgaaW.PrintWords Go.Proofs.YtcjnfdhdcoobgaaW.PrintLast Go.Proofs.YtcjnfdhdcoobgaaW.PrintMore Go.Proofs.Ytcjnfdhdcoobgaa.Chk

theorem rsecond_any (R : Int) (w : World) : Calls Try.prog 66 #[.int .i64 R] w fun e w' => e = .returned (.int .i64 (sec R)) ∧ w' = w := by
  unfold sec
  by_cases h0 : R = 0
  · subst h0
    go_enter Try.func66, Try.ntmps66
    go_wp2
    go_ret
    exact ⟨rfl, rfl⟩
  by_cases h1 : R = 1
  · subst h1
    go_enter Try.func66, Try.ntmps66
    go_wp2
    go_ret
    exact ⟨rfl, rfl⟩
  by_cases h2 : R = 2
  · subst h2
    go_enter Try.func66, Try.ntmps66
    go_wp2
    go_ret
    exact ⟨rfl, rfl⟩
  rw [if_neg h0, if_neg h1, if_neg h2]
  have b0 : (R == 0) = false := beq_eq_false_iff_ne.2 h0
  have b1 : (R == 1) = false := beq_eq_false_iff_ne.2 h1
  have b2 : (R == 2) = false := beq_eq_false_iff_ne.2 h2
  clear h0 h1 h2
  go_enter Try.func66, Try.ntmps66
  go_wp2
  go_ret
  exact ⟨rfl, rfl⟩

set_option maxRecDepth 100000 in
set_option maxHeartbeats 1000000 in
theorem rlow_any (X : Int) (wd : Nat) (hX : 0 ≤ X ∧ X < 4294967296) (hw : wd ≤ 8) (w : World) :
    Calls Try.prog 67 #[.int .i64 X, .int .i64 wd] w fun e w' => e = .returned (.string (strOfNums (le X wd))) ∧ Below w.heap.size w w' := by
  obtain ⟨hX1, hX2⟩ := hX
  go_enter Try.func67, Try.ntmps67
  go_wp2
  go_loopg [0, 5, 6] wd (fun gk n u x W => ∃ (k : Nat) (T : Int), k ≤ wd ∧ gk = wd - k ∧ x = .int .i64 k ∧ n = .int .i64 T ∧ 0 ≤ T ∧ T < 4294967296 ∧ Hid (T = X / 2 ^ (8 * k)) ∧ W.ownsRow w.heap.size 5 1 u (le X k).length (nums .u8 (le X k)) ∧ Below w.heap.size w W)
  case atStart => exact ⟨0, X, by omega, by omega, rfl, rfl, hX1, hX2, by show X = _; simp, World.ownsRow_nil _ _ _ _, br w⟩
  case round =>
    obtain ⟨k, T, hk, rfl, rfl, rfl, hT1, hT2, HT, hown, hb⟩ := hrel
    by_cases hlt : k < wd
    · have HLS := Lib.hid (le_succ X k)
      have hMl : (le X k).length ≤ 8 := by rw [le_length]; omega
      generalize le X k = M at hown HLS hMl
      obtain ⟨A5, c5, rfl⟩ := own_slice hown
      have hsz := hb.size
      go_wp2_with (at_builtin; go_loud (refine print_append_num w.heap.size rfl (.tmp 12) (.tmp 16) 37 5 .u8 1 rfl Try.underlying37 info8 (by decide) _ M (T % 256) rfl rfl hown hb hsz (by omega) ?_); intro v6 w6 hown6 hb6 hg6 hat6)
      go_roundg (wd - (k + 1))
      case measure => omega
      case rel => exact ⟨k + 1, T / 256, by omega, rfl, by go_num, rfl, by omega, by omega, by show T / 256 = _; rw [HT.out, le_step], by rw [HLS.out, ← HT.out]; exact hown6, hb6⟩
    · obtain rfl : k = wd := by omega
      have hcv := conv_own hown
      obtain ⟨A5, c5, rfl⟩ := own_slice hown
      go_wp2
      go_ret
      exact ⟨rfl, hb⟩
set_option maxRecDepth 100000 in
set_option maxHeartbeats 1000000 in
theorem rnumber_any (s : ByteArray) (hs : s.size ≤ 4) (w : World) :
    Calls Try.prog 71 #[.string s] w fun e w' => e = .returned (.int .i64 (leV (bytesOf s))) ∧ w' = w := by
  have hix : Hid (∀ i, i < s.size → ∀ W, (Instr.index 9 (.string s) (.int .i64 (i : Int))).run Try.prog W = .ok (.int .u8 (rd (bytesOf s) (i : Int))) W) := fun i h W => Pdu.str_index s i h W
  have HL := Lib.hid (bytesOf_byte s)
  have HN := Lib.hid (bytesOf_length s)
  go_enter Try.func71, Try.ntmps71
  go_wp2
  go_loopg [3, 4] s.size (fun gk v x W => ∃ j V : Nat, j ≤ s.size ∧ gk = j ∧ x = .int .i64 ((j : Int) - 1) ∧ v = .int .i64 V ∧ Hid (V = leV ((bytesOf s).drop j)) ∧ W = w)
  case atStart => exact ⟨s.size, 0, by omega, rfl, rfl, rfl, by show 0 = _; rw [List.drop_eq_nil_of_le (by rw [HN.out]; omega)]; rfl, rfl⟩
  case round =>
    obtain ⟨j, V, hj, hgk, rfl, rfl, HV, rfl⟩ := hrel
    subst hgk
    rcases gk with _ | j
    · go_wp2
      go_ret
      exact ⟨ret_int (by rw [HV.out]; rfl), rfl⟩
    · have y := hix.out j (by omega)
      have hb := rd_byte HL.out (j : Int)
      obtain ⟨b, hbe⟩ := Int.eq_ofNat_of_zero_le hb.1
      have hb8 : b < 256 := by omega
      have hVl : V < 1099511627776 := by
        have h1 := leV_lt (HL.out.drop (j + 1))
        rw [← HV.out] at h1
        exact Nat.lt_trans h1 (Nat.lt_of_le_of_lt (Nat.pow_le_pow_right (n := 256) (i := _) (j := 4) (by decide) (by rw [List.length_drop, HN.out]; omega)) (by decide))
      have HR : Hid (leV ((bytesOf s).drop j) = b + 256 * leV ((bytesOf s).drop (j + 1))) := by
        show _ = _
        rw [drop_rd (by rw [HN.out]; omega)]
        show (rd (bytesOf s) (j : Int)).toNat + _ = _
        rw [hbe]; rfl
      have ej : ((j + 1 : Nat) : Int) - 1 = j := by omega
      rw [ej]
      rw [hbe] at y
      clear hb hbe ej
      go_wp2
      go_roundg j
      case measure => omega
      case rel => exact ⟨j, 256 * V + b, by omega, rfl, by go_num, by congr 1; omega, by show 256 * V + b = _; rw [HR.out, HV.out]; omega, rfl⟩
end Go.Proofs.Ytcjnfdhdcoobgaa.Rif
