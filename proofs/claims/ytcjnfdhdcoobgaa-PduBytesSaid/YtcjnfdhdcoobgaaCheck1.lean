/- The walks of the package check: kinds, the sum of bits. Each contract tells what the call answers, and that the memory below is as it was. -/
import Derived.Test.YtcjnfdhdcoobgaaMore
import Derived.Test.YtcjnfdhdcoobgaaCrcCore
set_option linter.unusedVariables false
set_option linter.unusedSimpArgs false
namespace Go.Proofs.Ytcjnfdhdcoobgaa.Chk
open Go.RowKit Go.Proofs.YtcjnfdhdcoobgaaW.PrintWords Go.Proofs.YtcjnfdhdcoobgaaW.PrintLast Go.Proofs.YtcjnfdhdcoobgaaW.PrintMore

/-- the three kinds: width, start, pattern -/
inductive Knd : Nat → Nat → Nat → Prop
  | k8 : Knd 8 15 29
  | k16 : Knd 16 65535 4129
  | k24 : Knd 24 5592405 1627

theorem Knd.w {wd st p : Nat} (h : Knd wd st p) : 8 ≤ wd ∧ wd ≤ 24 ∧ st < 2 ^ wd ∧ p < 2 ^ wd ∧ p % 2 = 1 ∧ 2 ^ wd ≤ 16777216 ∧ p < 2 ^ 24 ∧ wd % 8 = 0 ∧ ((2 : Int) ^ wd ≤ 16777216) := by
  cases h <;> decide

/-- bit i of bytes, the highest of a byte first -/
def bitAt (l : List Int) (i : Nat) : Nat := (rd l ((i / 8 : Nat) : Int)).toNat / 2 ^ (7 - i % 8) % 2
theorem bitAt_lt (l : List Int) (i : Nat) : bitAt l i < 2 := by unfold bitAt; omega
/-- the sum of the first n bits -/
def sumN (wd st p : Nat) (l : List Int) (n : Nat) : Nat := Crc.feed wd p (bitAt l) n 0 st

theorem rd_byte {l : List Int} (h : ∀ x ∈ l, 0 ≤ x ∧ x ≤ 255) (i : Int) : 0 ≤ rd l i ∧ rd l i ≤ 255 := by
  unfold rd
  rw [List.getD_eq_getElem?_getD]
  cases e : l[i.toNat]? with
  | none => simp
  | some x => exact h x (List.mem_of_getElem? e)

theorem bits_nat32 (a b : Nat) (ha : a < 2 ^ 32) (hb : b < 2 ^ 32) : bits .xor .u32 (a : Int) (b : Int) = ((a ^^^ b : Nat) : Int) := by
  have ha' : a % 2 ^ IntKind.u32.bits = a := Nat.mod_eq_of_lt ha
  have hb' : b % 2 ^ IntKind.u32.bits = b := Nat.mod_eq_of_lt hb
  have hx : a ^^^ b < 2 ^ 32 := Nat.xor_lt_two_pow ha hb
  simp only [bits, BitVec.ofInt_natCast, BitVec.toNat_xor, BitVec.toNat_ofNat, ha', hb']
  rw [IntKind.wrap_u32]; omega
theorem and_mask (x : Int) (j : Nat) (hj : j ≤ 32) (h0 : 0 ≤ x) (h1 : x < 2 ^ 32) : bits .and .u32 x (2 ^ j - 1) = x % 2 ^ j :=
  bits_mask .u32 32 (by decide) (fun n h0 h1 => by rw [IntKind.wrap_u32]; omega) j hj x h0 h1

theorem nx_go {wd st p : Nat} (hk : Knd wd st p) {s b : Nat} (hs : s < 2 ^ wd) :
    ((Crc.nx wd p s b : Nat) : Int) = if ((s : Int) / 2 ^ (wd - 1) != (b : Int)) = true then bits .xor .u32 (bits .and .u32 ((s : Int) * 2) ((2 ^ wd - 1) % 4294967296)) p else bits .and .u32 ((s : Int) * 2) ((2 ^ wd - 1) % 4294967296) := by
  obtain ⟨w1, w2, -, hp, -, w6, hp24, -, w8⟩ := hk.w
  have e1 : ((2 : Int) ^ wd - 1) % 4294967296 = 2 ^ wd - 1 := by
    rw [Int.emod_eq_of_lt]
    · have : (0 : Int) < 2 ^ wd := Int.pow_pos (by decide); omega
    · omega
  have e2 : bits .and .u32 ((s : Int) * 2) ((2 ^ wd - 1) % 4294967296) = (((2 * s) % 2 ^ wd : Nat) : Int) := by
    rw [e1, and_mask _ wd (by omega) (by omega) (by have : (s : Int) < 16777216 := by omega
                                                    omega)]
    push_cast
    rw [Int.mul_comm]
  have e3 : (2 * s) % 2 ^ wd < 2 ^ wd := Nat.mod_lt _ (Nat.two_pow_pos _)
  rw [e2, bits_nat32 _ _ (by omega) (by omega)]
  unfold Crc.nx
  have e4 : ((s : Int) / 2 ^ (wd - 1)) = ((s / 2 ^ (wd - 1) : Nat) : Int) := by push_cast; rfl
  rw [e4]
  by_cases h : s / 2 ^ (wd - 1) = b
  · rw [if_pos h, if_neg (by simp [h])]
  · rw [if_neg h, if_pos (by rw [bne_iff_ne]; intro h'; exact h (by exact_mod_cast h'))]

set_option maxRecDepth 100000 in
set_option maxHeartbeats 400000 in
theorem next_any {wd st p : Nat} (hk : Knd wd st p) (s b : Int) (hs0 : 0 ≤ s) (hs : s < 2 ^ wd) (hb0 : 0 ≤ b) (hb : b < 2) (w : World) :
    Calls Try.prog 84 #[.agg #[.int .i64 wd, .int .u32 st, .int .u32 p], .int .u32 s, .int .u32 b] w
      fun e w' => e = .returned (.int .u32 ((Crc.nx wd p s.toNat b.toNat : Nat) : Int)) ∧ Below w.heap.size w w' := by
  obtain ⟨s, rfl⟩ := Int.eq_ofNat_of_zero_le hs0
  obtain ⟨b, rfl⟩ := Int.eq_ofNat_of_zero_le hb0
  have hs' : s < 2 ^ wd := by exact_mod_cast hs
  have hfin := Lib.hid (nx_go hk (b := b) hs')
  obtain ⟨w1, w2, -, -, -, w6, -, -, -⟩ := hk.w
  have h24 : s < 16777216 := by omega
  clear hs w6 hs'
  rw [Int.toNat_natCast, Int.toNat_natCast]
  obtain ⟨W, hW⟩ : ∃ W : Int, W = wd := ⟨_, rfl⟩
  have w1' : 8 ≤ W := by omega
  have w2' : W ≤ 24 := by omega
  rw [← hW]
  have HW := Lib.hid hW
  clear w1 w2 hW
  go_enter Try.func84, Try.ntmps84
  go_wp2
  · have ht : ((s : Int) / 2 ^ (W.toNat - 1) != (b : Int)) = true := by assumption
    obtain rfl : wd = W.toNat := by have := HW.out; omega
    go_ret
    exact ⟨ret_int (by rw [hfin.out, if_pos ht]), (Below.refl _ _).alloc (Nat.le_refl _) _⟩
  · have ht : ((s : Int) / 2 ^ (W.toNat - 1) != (b : Int)) = false := by assumption
    obtain rfl : wd = W.toNat := by have := HW.out; omega
    go_ret
    exact ⟨ret_int (by rw [hfin.out, if_neg (by rw [ht]; decide)]), (Below.refl _ _).alloc (Nat.le_refl _) _⟩

theorem bit_go (l : List Int) (k sh : Nat) (hsh : sh = 7 - k % 8) (hb : 0 ≤ rd l ((k / 8 : Nat) : Int) ∧ rd l ((k / 8 : Nat) : Int) ≤ 255) :
    bits .and .u32 (rd l ((k : Int) / 8) / 2 ^ min sh 32) 1 = ((bitAt l k : Nat) : Int) := by
  obtain ⟨v, hv⟩ := Int.eq_ofNat_of_zero_le hb.1
  have hz : ∀ n : Nat, (0 : Int) ≤ (n : Int) := fun n => Int.natCast_nonneg n
  have e : ((k / 8 : Nat) : Int) = (k : Int) / 8 := by omega
  have hv' : v < 2 ^ 32 := by omega
  unfold bitAt
  rw [← e, hv, Nat.min_eq_left (by omega), ← hsh, Int.toNat_natCast]
  have e1 : (v : Int) / 2 ^ sh = ((v / 2 ^ sh : Nat) : Int) := by push_cast; rfl
  have h1 := and_mask ((v / 2 ^ sh : Nat) : Int) 1 (by decide) (hz _) (by
    have : v / 2 ^ sh ≤ v := Nat.div_le_self _ _
    omega)
  rw [e1]
  have e2 : (2 : Int) ^ 1 - 1 = 1 := by decide
  rw [e2] at h1
  rw [h1]
  push_cast
  rfl

theorem sumN_lt {wd st p : Nat} (hk : Knd wd st p) (l : List Int) (n : Nat) : sumN wd st p l n < 2 ^ wd := by
  obtain ⟨w1, w2, hst, hp, -⟩ := hk.w
  exact Crc.feed_lt hp _ _ _ hst
theorem sumN_succ (wd st p : Nat) (l : List Int) (k : Nat) : sumN wd st p l (k + 1) = Crc.nx wd p (sumN wd st p l k) (bitAt l k) := by
  unfold sumN; rw [Crc.feed_snoc]; simp

set_option maxRecDepth 100000 in
set_option maxHeartbeats 1000000 in
theorem sum_any {wd st p : Nat} (hk : Knd wd st p) (A : Option Addr) (c : Nat) (l : List Int) (n : Int) (w : World) (h0 : 0 ≤ n) (hn : n ≤ 8 * l.length)
    (hl : l.length ≤ 140737488351232) (hlu : ∀ x ∈ l, 0 ≤ x ∧ x ≤ 255) (hr : ReadsInt w .u8 A l.length l) :
    Calls Try.prog 75 #[.agg #[.int .i64 wd, .int .u32 st, .int .u32 p], .slice A l.length c, .int .i64 n] w
      fun e w' => e = .returned (.int .u32 ((sumN wd st p l n.toNat : Nat) : Int)) ∧ Below w.heap.size w w' := by
  have HLU := Lib.hid hlu
  clear hlu
  go_enter Try.func75, Try.ntmps75
  go_wp2
  go_loopg [7, 12] n.toNat (fun g s i wr => ∃ k : Nat, k ≤ n ∧ g = n.toNat - k ∧ i = .int .i64 k ∧ s = .int .u32 ((sumN wd st p l k : Nat) : Int) ∧ Below (w.heap.size + 1) (w.alloc (.cells #[.int .i64 wd, .int .u32 st, .int .u32 p] 127)) wr)
  case atStart => exact ⟨0, by omega, by omega, rfl, rfl, Below.refl _ _⟩
  case round =>
    obtain ⟨k, hkn, rfl, rfl, rfl, hbel⟩ := hrel
    obtain ⟨h1, h2⟩ := bcell hbel
    have c0 := h1 w.heap.size 0 (by omega)
    have c1 := h1 w.heap.size 1 (by omega)
    have c2 := h1 w.heap.size 2 (by omega)
    simp at c0 c1 c2
    by_cases hlt : (k : Int) < n
    · have hbw : Below w.heap.size w wr := ((Below.refl w.heap.size w).alloc (Nat.le_refl _) _).trans (hbel.mono (by omega))
      obtain ⟨ad, rfl, hcell⟩ := (hr.below hbw).at_ ((k / 8 : Nat) : Int) (by omega) (by omega)
      rw [Int.toNat_natCast] at hcell
      have hrg := rd_byte HLU.out ((k / 8 : Nat) : Int)
      have hfin := Lib.hid (fun sh hsh => bit_go l k sh hsh hrg)
      have hs := Lib.hid (sumN_lt hk l k)
      have hs1 := Lib.hid (sumN_succ wd st p l k)
      have e0 : IntKind.i64.wrap ((k : Int) / 8) = (k : Int) / 8 := IntWalk.i64_in _ (by omega)
      obtain ⟨r, eT, hr8⟩ : ∃ r : Nat, (k : Int).tmod 8 = (r : Int) ∧ Hid (r = k % 8) := ⟨k % 8, by rw [Int.tmod_eq_emod_of_nonneg (by omega)]; omega, rfl⟩
      obtain ⟨sh, e1, hsh⟩ : ∃ sh : Nat, IntKind.i64.wrap (7 - (r : Int)) = (sh : Int) ∧ Hid (sh = 7 - k % 8) := ⟨7 - k % 8, by have := hr8.out; rw [IntWalk.i64_in _ (by omega)]; omega, rfl⟩
      have e6 : IntKind.u32.wrap (rd l ((k : Int) / 8)) = rd l ((k : Int) / 8) := by
        rw [IntKind.wrap_u32]
        have : ((k / 8 : Nat) : Int) = (k : Int) / 8 := by omega
        rw [this] at hrg; omega
      have e2 : 0 ≤ (k : Int) / 8 := by omega
      have e3 : ((k : Int) / 8).toNat = k / 8 := by omega
      have e4 : (k : Int) / 8 < l.length := by omega
      clear h1 h2 hr
      go_wp2
      go_still_tail 13, (by kernel_rfl)
      change wpList _ _ _ _ _ wr.drew
      rw [hfin.out sh hsh.out]
      go_wp2_with (go_at_call 84; refine (next_any hk _ _ (by omega) (by have := hs.out; exact_mod_cast this) (by omega) (by have := bitAt_lt l k; omega) _).mono ?_; rintro e w2 ⟨rfl, hb2⟩)
      go_roundg (n.toNat - (k + 1))
      case measure => omega
      case rel => exact ⟨k + 1, by omega, rfl, by go_num, by rw [hs1.out], hbel.trans ((below_drew (Below.refl _ _)).trans (hb2.mono (by have := hbel.size; simp at this ⊢; omega)))⟩
    · have hkn' : n.toNat = k := by omega
      have HN := Lib.hid hkn'
      clear hkn'
      go_wp2
      go_ret
      exact ⟨by rw [HN.out]; rfl, ((Below.refl w.heap.size w).alloc (Nat.le_refl _) _).trans (hbel.mono (by omega))⟩
end Go.Proofs.Ytcjnfdhdcoobgaa.Chk
