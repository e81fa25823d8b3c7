/- The walk of the statement CheckTurned. -/
import Derived.Test.YtidfahjebjaneaaBurst
set_option linter.unusedVariables false
set_option linter.unusedSimpArgs false
namespace Go.Proofs.Ytidfahjebjaneaa.Chk
open Go.RowKit Go.Proofs.YtidfahjebjaneaaW.PrintWords Go.Proofs.YtidfahjebjaneaaW.PrintLast Go.Proofs.YtidfahjebjaneaaW.PrintMore

def turnX (T k : Nat) : Nat := T / 2 ^ k % 2
def anyX (T k : Nat) : Bool := (List.range k).any fun j => turnX T j == 1
/-- M' is M, but for the first k bits turned from F on -/
def Turned (M : List Int) (F T k : Nat) (M' : List Int) : Prop := Bytes M' ∧ M'.length = M.length ∧ ∀ j, bitAt M' j = bitAt M j ^^^ (if F ≤ j ∧ j < F + k then turnX T (j - F) else 0)

theorem turn_go (T k : Nat) : ((T : Int) / 2 ^ k).tmod 2 = ((turnX T k : Nat) : Int) := by
  have e : (T : Int) / 2 ^ k = ((T / 2 ^ k : Nat) : Int) := by push_cast; rfl
  rw [e, Int.tmod_eq_emod_of_nonneg (Int.natCast_nonneg _)]
  unfold turnX; push_cast; rfl
theorem turnX_lt (T k : Nat) : turnX T k < 2 := by unfold turnX; omega
theorem anyX_succ (T k : Nat) : anyX T (k + 1) = (anyX T k || turnX T k == 1) := by
  unfold anyX; rw [List.range_succ, List.any_append]; simp

/-- one more bit that is turned, or not -/
theorem turned_yes {M M' : List Int} {F T k b : Nat} (h : Turned M F T k M') (hi : (F + k) / 8 < M.length) (hb : rd M' (((F + k) / 8 : Nat) : Int) = b) (hb8 : b < 256) (hx : turnX T k = 1) :
    Turned M F T (k + 1) (M'.set ((F + k) / 8) ((b ^^^ 2 ^ (7 - (F + k) % 8) : Nat) : Int)) := by
  obtain ⟨h1, h2, h3⟩ := h
  refine ⟨fun x hx' => ?_, by rw [List.length_set, h2], fun j => ?_⟩
  · rcases List.mem_or_eq_of_mem_set hx' with h | rfl
    · exact h1 x h
    · have hp : 2 ^ (7 - (F + k) % 8) < 2 ^ 8 := Nat.pow_lt_pow_right (by decide) (by omega)
      have := Nat.xor_lt_two_pow (n := 8) hb8 hp
      omega
  · rw [flip_bit M' (F + k) j b (by omega) hb, h3, Nat.xor_assoc]
    congr 1
    by_cases e : j = F + k
    · rw [if_pos e, if_neg (by omega), if_pos (by omega), show j - F = k from by omega, hx]; rfl
    · rw [if_neg e, Nat.xor_zero]
      by_cases e2 : F ≤ j ∧ j < F + k
      · rw [if_pos e2, if_pos (by omega)]
      · rw [if_neg e2, if_neg (by omega)]
theorem turned_no {M M' : List Int} {F T k : Nat} (h : Turned M F T k M') (hx : ¬ turnX T k = 1) : Turned M F T (k + 1) M' := by
  obtain ⟨h1, h2, h3⟩ := h
  refine ⟨h1, h2, fun j => ?_⟩
  rw [h3]
  congr 1
  by_cases e : j = F + k
  · rw [if_neg (by omega), if_pos (by omega), show j - F = k from by omega]
    have := turnX_lt T k; omega
  · by_cases e2 : F ≤ j ∧ j < F + k
    · rw [if_pos e2, if_pos (by omega)]
    · rw [if_neg e2, if_neg (by omega)]
theorem xor8 (b r : Nat) (hb : b < 256) (hr : r < 8) : bits .xor .u8 (b : Int) (128 / 2 ^ r) = ((b ^^^ 2 ^ (7 - r) : Nat) : Int) := by
  have hp : 2 ^ (7 - r) < 2 ^ 8 := Nat.pow_lt_pow_right (by decide) (by omega)
  have e : (128 : Int) / 2 ^ r = ((2 ^ (7 - r) : Nat) : Int) := by
    have : r = 0 ∨ r = 1 ∨ r = 2 ∨ r = 3 ∨ r = 4 ∨ r = 5 ∨ r = 6 ∨ r = 7 := by omega
    rcases this with rfl | rfl | rfl | rfl | rfl | rfl | rfl | rfl <;> decide
  have ha' : b % 2 ^ IntKind.u8.bits = b := Nat.mod_eq_of_lt hb
  have hb' : 2 ^ (7 - r) % 2 ^ IntKind.u8.bits = 2 ^ (7 - r) := Nat.mod_eq_of_lt hp
  have hx : b ^^^ 2 ^ (7 - r) < 2 ^ 8 := Nat.xor_lt_two_pow hb hp
  rw [e]
  simp only [bits, BitVec.ofInt_natCast, BitVec.toNat_xor, BitVec.toNat_ofNat, ha', hb']
  rw [IntKind.wrap_u8]; omega

theorem own_pos {w : World} {base n size : Nat} {e : TypeId} {v : Value} {xs : List Value} (h : w.ownsRow base e size v n xs) (hn : 0 < n) : ∃ g cap, v = .slice (some ⟨g, 0, none⟩) n cap ∧ n ≤ cap ∧ base ≤ g := by
  rcases h.2 with ⟨-, h2⟩ | ⟨g, cap, cur, h1, h2, -, h3, -⟩
  · omega
  · exact ⟨g, cap, h1, h3, h2⟩

set_option maxRecDepth 100000 in
set_option maxHeartbeats 1000000 in
theorem turned_any (a : Int) (L : List Int) (hL : Bytes L) (hl : L.length ≤ 140737488351232) (at_ T : Nat) (hat : at_ < 65536) (w : World) :
    Calls Try.prog 12 #[.int .i64 a, .string (strOfNums L), .int .u16 at_, .int .u32 T] w fun e w' => e = .returned (.bool true) ∧ Below w.heap.size w w' := by
  have hsz := strOfNums_size L
  have HL := Lib.hid hL
  clear hL
  by_cases hlen : 2000 < L.length
  · go_enter Try.func12, Try.ntmps12
    go_wp2_with fail
    refine (alive_any _).mono ?_
    rintro e w1 ⟨rfl, hb1⟩
    go_wp2
    go_ret
    exact ⟨rfl, hb1⟩
  have kb := fun W : World => print_bytes (P := Try.prog) 9 22 5 Try.underlying9 Try.underlying22 Try.underlying5 (strOfNums L) W
  rcases knd_or a with ⟨wd, st, p, hk, rfl⟩ | hbad
  · have hw2 := hk.w.2.1
    have hw1 := hk.w.1
    have hw8 := hk.w.2.2.2.2.2.2.2.1
    have hfs := fits_seal hk L
    go_enter Try.func12, Try.ntmps12
    go_wp2_with fail
    refine (alive_any _).mono ?_
    rintro e w1 ⟨rfl, hb1⟩
    go_wp2_with fail
    refine (seal_of hk _ _ _ L _ (by omega) HL.out (conv_bytes HL.out (by omega) _)).mono ?_
    rintro e w2 ⟨v1, rfl, ho1, hb2⟩
    have hbW := bytes_below hb1 hb1.size 5 (strOfNums L)
    have hb2' := bt hbW hb2
    have hlen2 : (L ++ tailL wd (sumN wd st p L (8 * L.length)) (wd / 8)).length = L.length + wd / 8 := by rw [List.length_append, tailL_length]
    have hby : Bytes (L ++ tailL wd (sumN wd st p L (8 * L.length)) (wd / 8)) := HL.out.append (tailL_byte _ _ _)
    obtain ⟨f1, -⟩ := hfs
    generalize L ++ tailL wd (sumN wd st p L (8 * L.length)) (wd / 8) = M at *
    obtain ⟨g, cap, rfl, hlm, hg⟩ := own_pos (own_weaken ho1 hbW.size) (by omega)
    have HM := Lib.hid hby
    have HF := Lib.hid f1
    have ho := own_weaken ho1 hbW.size
    clear hb1 hb2 hbW hby ho1 f1
    obtain ⟨n, hn⟩ : ∃ n, n = M.length := ⟨_, rfl⟩
    have HN := Lib.hid hn
    have hn1 : n = L.length + wd / 8 := by omega
    have hn2 : n ≤ 2100 := by omega
    have hn3 : wd ≤ 8 * n := by omega
    rw [← hn] at ho hlm ⊢
    have HN1 := Lib.hid hn1
    clear hn hn1 hlen2
    obtain ⟨F, hF, hF2⟩ : ∃ F : Nat, (at_ : Int) % (8 * (n : Int) - (wd : Int) + 1) = F ∧ F + wd ≤ 8 * n := by
      have h1 := Int.emod_nonneg (at_ : Int) (show (8 * (n : Int) - (wd : Int) + 1) ≠ 0 by omega)
      have h2 := Int.emod_lt_of_pos (at_ : Int) (show 0 < (8 * (n : Int) - (wd : Int) + 1) by omega)
      refine ⟨((at_ : Int) % (8 * (n : Int) - (wd : Int) + 1)).toNat, (Int.toNat_of_nonneg h1).symm, ?_⟩
      have h3 := Int.toNat_of_nonneg h1
      omega
    go_wp2
    simp only [hF]
    go_loopg [12, 13] wd (fun gk any i wr => ∃ (k : Nat) (M' : List Int), k ≤ wd ∧ gk = wd - k ∧ i = .int .i64 k ∧ any = .bool (anyX T k) ∧ Hid (Turned M F T k M') ∧
      Hid (wr.ownsRow w.heap.size 5 1 (.slice (some ⟨g, 0, none⟩) n cap) n (nums .u8 M')) ∧ Below w.heap.size w wr)
    case atStart => exact ⟨0, M, by omega, by omega, rfl, rfl, ⟨HM.out, rfl, fun j => by rw [if_neg (by omega), Nat.xor_zero]⟩, ho, hb2'⟩
    case round =>
      obtain ⟨k, M', hkw, rfl, rfl, rfl, HT, HO, hb⟩ := hrel
      by_cases hlt : k < wd
      · have hqn : (F + k) / 8 < n := by omega
        obtain ⟨hc, hz⟩ := own_at HO.out (((F + k) / 8 : Nat) : Int) (by omega) (by omega)
        rw [Int.toNat_natCast] at hc hz
        obtain ⟨b, hb1, hb8⟩ := rd_nat HT.out.1 ((F + k) / 8)
        rw [hb1] at hc
        have hst := own_store HO.out (((F + k) / 8 : Nat) : Int)
        rw [Int.toNat_natCast] at hst
        have HST := Lib.hid hst
        have HXE := Lib.hid (xor8 b ((F + k) % 8) hb8 (by omega))
        have HB1 := Lib.hid hb1
        have hset := Lib.hid (fun v : Value => below_set (v := v) (j := (F + k) / 8) hb hg)
        clear hst hb1
        by_cases hx : turnX T k = 1
        · have hx1 : (((T : Int) / 2 ^ k).tmod 2 == 1) = true := by rw [turn_go, hx]; rfl
          have HX := Lib.hid hx
          have HA : Hid (anyX T (k + 1) = true) := by show _ = _; rw [anyX_succ, hx]; simp
          clear hx
          go_wp2
          go_roundg (wd - (k + 1))
          case measure => omega
          case rel =>
            refine ⟨k + 1, _, by omega, rfl, by go_num, by rw [HA.out], turned_yes HT.out (by rw [← HN.out]; exact hqn) HB1.out hb8 HX.out, ?_, ?_⟩
            · have := (HST.out ((b ^^^ 2 ^ (7 - (F + k) % 8) : Nat) : Int)).1
              show World.ownsRow _ _ _ _ _ _ _
              rw [HXE.out]
              exact this
            · exact hset.out _
        · have hx1 : (((T : Int) / 2 ^ k).tmod 2 == 1) = false := by
            rw [turn_go, beq_eq_false_iff_ne]; intro h; exact hx (by exact_mod_cast h)
          have HX := Lib.hid hx
          have HA : Hid (anyX T (k + 1) = anyX T k) := by show _ = _; rw [anyX_succ]; simp [hx]
          clear hx
          go_wp2
          go_roundg (wd - (k + 1))
          case measure => omega
          case rel => exact ⟨k + 1, M', by omega, rfl, by go_num, by rw [HA.out], turned_no HT.out HX.out, HO, hb⟩
      · have hkw' : k = wd := by omega
        subst hkw'
        obtain ⟨t1, t2, t3⟩ := HT.out
        have hbu := burst hk M M' HM.out t1 t2 HF.out F (by rw [← HN.out]; exact hF2) (turnX T) (turnX_lt T) t3
        have hany : anyX T k = true ↔ ¬ ∀ j, j < k → turnX T j = 0 := by
          unfold anyX
          rw [List.any_eq_true]
          constructor
          · rintro ⟨j, hj, hx⟩ h
            have := h j (List.mem_range.1 hj)
            rw [this] at hx; simp at hx
          · intro h
            by_cases h2 : ∃ j, j < k ∧ turnX T j = 1
            · obtain ⟨j, hj, hx⟩ := h2
              exact ⟨j, List.mem_range.2 hj, by rw [hx]; rfl⟩
            · exact absurd (fun j hj => by have := turnX_lt T j; have : ¬ turnX T j = 1 := fun e => h2 ⟨j, hj, e⟩; omega) h
        rw [← hbu] at hany
        have hlm' : M'.length = n := by rw [t2, HN.out]
        have hrd := own_reads HO.out
        obtain ⟨A2, c2, e2, hr2⟩ := hrd
        simp only [Value.slice.injEq] at e2
        obtain ⟨rfl, -, rfl⟩ := e2
        clear hbu HT t3 t2
        go_wp2_with fail
        refine (open_of hk _ _ _ M' _ (by omega) (by omega) t1 hr2).mono ?_
        rintro e w4 (⟨hf, v2, rfl, ho2, hb4⟩ | ⟨hf, rfl, hb4⟩)
        · have hA : anyX T k = false := by cases h : anyX T k with | false => rfl | true => exact absurd hf (hany.1 h)
          have hb := bt hb hb4
          clear hany ho2 hb4
          rw [hA]
          go_wp2
          go_ret
          exact ⟨rfl, hb⟩
        · have hA : anyX T k = true := hany.2 hf
          have hb := bt hb hb4
          clear hany hb4
          rw [hA]
          go_wp2
          go_ret
          exact ⟨rfl, hb⟩
  · go_enter Try.func12, Try.ntmps12
    go_wp2_with fail
    refine (alive_any _).mono ?_
    rintro e w1 ⟨rfl, hb1⟩
    go_wp2_with fail
    refine (seal_bad _ hbad _ _ _ _).mono ?_
    rintro e w2 ⟨rfl, hb2⟩
    have hb2' := bt (bytes_below hb1 hb1.size _ _) hb2
    clear hb1 hb2
    go_wp2
    go_ret
    exact ⟨rfl, hb2'⟩

theorem turned_of (a : Int) (s : ByteArray) (hs : s.size ≤ 140737488351232) (at_ T : Int) (hat : 0 ≤ at_ ∧ at_ < 65536) (hT : 0 ≤ T) (w : World) :
    Calls Try.prog 12 #[.int .i64 a, .string s, .int .u16 at_, .int .u32 T] w fun e w' => e = .returned (.bool true) ∧ Below w.heap.size w w' := by
  obtain ⟨n, rfl⟩ := Int.eq_ofNat_of_zero_le hat.1
  obtain ⟨t, rfl⟩ := Int.eq_ofNat_of_zero_le hT
  have h := turned_any a (bytesOf s) (bytesOf_byte s) (by rw [bytesOf_length]; exact hs) n t (by omega) w
  rw [str_bytesOf] at h
  exact h
end Go.Proofs.Ytidfahjebjaneaa.Chk
