/- The walk of the reference's Sum. -/
import Derived.Test.YtcjnfdhdcoobgaaKnd
set_option linter.unusedVariables false
set_option linter.unusedSimpArgs false
namespace Go.Proofs.Ytcjnfdhdcoobgaa.Chk
open Go.RowKit Go.Proofs.YtcjnfdhdcoobgaaW.PrintWords Go.Proofs.YtcjnfdhdcoobgaaW.PrintLast Go.Proofs.YtcjnfdhdcoobgaaW.PrintMore

theorem reads_nil (W : World) (k : IntKind) (A : Option Addr) : ReadsInt W k A 0 [] := ⟨rfl, by omega, fun h => by omega⟩
theorem reads_lit (W : World) (t : TypeId) (f : Nat × Nat) (k : IntKind) (xs : List Int) (h : xs.length ≤ 9223372036854775807) : ReadsInt (W.alloc (.cells (nums k xs).toArray t f)) k (some ⟨W.heap.size, 0, none⟩) xs.length xs := by
  refine ⟨rfl, h, fun _ => ⟨_, rfl, fun j hj => ?_⟩⟩
  rw [add_plain]
  unfold World.cell? World.alloc
  simp [nums, List.getElem?_eq_getElem hj, List.getD_eq_getElem?_getD]
theorem clear_low (v m : Nat) : v ^^^ (v % 2 ^ m) = v / 2 ^ m * 2 ^ m := by
  apply Nat.eq_of_testBit_eq
  intro i
  rw [Nat.testBit_xor, Nat.testBit_mod_two_pow, ← Nat.shiftLeft_eq, Nat.testBit_shiftLeft, Nat.testBit_div_two_pow]
  by_cases h : i < m
  · rw [decide_eq_true h, decide_eq_false (by omega)]; cases v.testBit i <;> rfl
  · rw [decide_eq_false h, decide_eq_true (show i ≥ m by omega), show i - m + m = i from by omega]; cases v.testBit i <;> rfl
theorem byte_step {wd st p : Nat} (hk : Knd wd st p) (l : List Int) (k q v s : Nat) (hv : rd l (k : Int) = v) (hv8 : v < 256) (hq1 : 1 ≤ q) (hq : q ≤ 8) (hs : s < 2 ^ wd) :
    s ^^^ (v * 2 ^ (wd - 8)) ^^^ ((v % 2 ^ (8 - q)) * 2 ^ (wd - 8)) < 2 ^ wd ∧
    Crc.feed wd p (bitAt l) q (8 * k) s = Crc.feed wd p (fun _ => 0) q 0 (s ^^^ (v * 2 ^ (wd - 8)) ^^^ ((v % 2 ^ (8 - q)) * 2 ^ (wd - 8))) := by
  obtain ⟨w1, w2, -, hp, -⟩ := hk.w
  obtain ⟨m, hm⟩ : ∃ m, m = 8 - q := ⟨_, rfl⟩
  rw [← hm]
  have e8 : 2 ^ wd = 256 * 2 ^ (wd - 8) := by rw [show (256 : Nat) = 2 ^ 8 from rfl, ← Nat.pow_add]; congr 1; omega
  have hD : (v * 2 ^ (wd - 8)) ^^^ ((v % 2 ^ m) * 2 ^ (wd - 8)) = v / 2 ^ m * 2 ^ (m + (wd - 8)) := by
    have := @Nat.shiftLeft_xor_distrib (wd - 8) v (v % 2 ^ m)
    rw [Nat.shiftLeft_eq, Nat.shiftLeft_eq, Nat.shiftLeft_eq, clear_low] at this
    rw [← this, Nat.mul_assoc, ← Nat.pow_add]
  have hDl : v / 2 ^ m * 2 ^ (m + (wd - 8)) < 2 ^ wd := by
    rw [Nat.pow_add, ← Nat.mul_assoc, e8]
    have : v / 2 ^ m * 2 ^ m ≤ v := Nat.div_mul_le_self v _
    exact Nat.mul_lt_mul_of_lt_of_le (by omega) (Nat.le_refl _) (Nat.two_pow_pos _)
  rw [Nat.xor_assoc, hD]
  have hB : s ^^^ v / 2 ^ m * 2 ^ (m + (wd - 8)) < 2 ^ wd := Nat.xor_lt_two_pow hs hDl
  refine ⟨hB, ?_⟩
  have h := Crc.feed_reg (f := bitAt l) (by omega : 1 ≤ wd) hp q (8 * k) s _ (v / 2 ^ m * 2 ^ (m + (wd - 8))) hs hB (by rw [← Nat.xor_assoc, Nat.xor_self, Nat.zero_xor]) ?_
  · have hz : v / 2 ^ m * 2 ^ (m + (wd - 8)) * 2 ^ q % 2 ^ wd = 0 := by
      rw [Nat.mul_assoc, ← Nat.pow_add, show m + (wd - 8) + q = wd from by omega, Nat.mul_mod_left]
    rw [hz] at h
    rw [Crc.xor_eq_zero.1 h]
    have := @Crc.feed_shift wd p (fun _ => 0) q 0 (8 * k) (s ^^^ v / 2 ^ m * 2 ^ (m + (wd - 8)))
    simpa using this
  · intro j hj
    rw [Crc.reg_bit (by omega)]
    unfold bitAt
    rw [show (8 * k + j) / 8 = k from by omega, show (8 * k + j) % 8 = j from by omega, hv, Int.toNat_natCast]
    have e1 : 2 ^ (wd - 1 - j) = 2 ^ (7 - j - m) * 2 ^ (m + (wd - 8)) := by rw [← Nat.pow_add]; congr 1; omega
    have e2 : 2 ^ (7 - j) = 2 ^ m * 2 ^ (7 - j - m) := by rw [← Nat.pow_add]; congr 1; omega
    rw [e1, Nat.mul_div_mul_right _ _ (Nat.two_pow_pos _), e2, Nat.div_div_eq_div_mul]
theorem sumN_add (wd st p : Nat) (l : List Int) (a b : Nat) : sumN wd st p l (a + b) = Crc.feed wd p (bitAt l) b a (sumN wd st p l a) := by
  unfold sumN; rw [Crc.feed_add]; simp
/-- one bit 0 more, as the reference has it -/
theorem nx0_ref {wd st p : Nat} (hk : Knd wd st p) {s : Nat} (hs : s < 2 ^ wd) :
    (2 ^ (wd - 1) ≤ s → ((Crc.nx wd p s 0 : Nat) : Int) = bits .xor .u32 (((s : Int) - 2 ^ (wd - 1)) * 2) p) ∧ (¬ 2 ^ (wd - 1) ≤ s → ((Crc.nx wd p s 0 : Nat) : Int) = (s : Int) * 2) := by
  obtain ⟨w1, w2, -, hp, -, w6, hp24, -⟩ := hk.w
  have e2 : 2 * 2 ^ (wd - 1) = 2 ^ wd := by rw [← Nat.pow_succ']; congr 1; omega
  constructor
  · intro h
    have h1 : s / 2 ^ (wd - 1) = 1 := by
      have := Crc.hi_lt (by omega : 1 ≤ wd) hs
      have := Nat.div_pos h (Nat.two_pow_pos _)
      omega
    have h2 : (2 * s) % 2 ^ wd = 2 * s - 2 ^ wd := by rw [Nat.mod_eq_sub_mod (by omega), Nat.mod_eq_of_lt (by omega)]
    unfold Crc.nx
    rw [if_neg (by omega), h2, ← bits_nat32 _ _ (by omega) (by omega)]
    congr 1
    have : ((2 : Int) ^ (wd - 1)) = ((2 ^ (wd - 1) : Nat) : Int) := by push_cast; rfl
    rw [this]; omega
  · intro h
    have h1 : s / 2 ^ (wd - 1) = 0 := Nat.div_eq_of_lt (by omega)
    unfold Crc.nx
    rw [if_pos h1, Nat.mod_eq_of_lt (by omega)]
    omega
theorem nx0_top {wd st p : Nat} (hk : Knd wd st p) {S j X top q : Nat} (ht : top = 2 ^ (wd - 1)) (h : X = Crc.feed wd p (fun _ => 0) j 0 S ∧ X < 2 ^ wd) :
    (top ≤ X → bits .xor .u32 (((X : Int) - top) * 2) p = ((Crc.feed wd p (fun _ => 0) (j + 1) 0 S : Nat) : Int)) ∧ (¬ top ≤ X → (X : Int) * 2 = ((Crc.feed wd p (fun _ => 0) (j + 1) 0 S : Nat) : Int)) ∧
    Crc.feed wd p (fun _ => 0) (j + 1) 0 S < 2 ^ wd ∧ Crc.feed wd p (fun _ => 0) (j + 1) 0 S < 16777216 := by
  obtain ⟨h1, h2⟩ := h
  have e := nx0_ref hk h2
  have hp := hk.w.2.2.2.1
  have h6 := hk.w.2.2.2.2.2.1
  have hf : Crc.feed wd p (fun _ => 0) (j + 1) 0 S = Crc.nx wd p X 0 := by rw [Crc.feed_snoc, ← h1]
  have hl : Crc.nx wd p X 0 < 2 ^ wd := Crc.nx_lt hp
  rw [hf]
  subst ht
  refine ⟨fun h => ?_, fun h => ?_, hl, by omega⟩
  · rw [e.1 h]; push_cast; rfl
  · rw [e.2 h]
theorem ref_mask {wd st p : Nat} (hk : Knd wd st p) (W : Int) (hW : W = wd) (s v q : Nat) (hs : s < 2 ^ wd) (hv8 : v < 256) :
    bits .xor .u32 (s : Int) ((v : Int) * 2 ^ (W - 8).toNat % 4294967296) = ((s ^^^ v * 2 ^ (wd - 8) ^^^ (v % 2 ^ (8 - 8)) * 2 ^ (wd - 8) : Nat) : Int) ∧
    bits .xor .u32 (bits .xor .u32 (s : Int) ((v : Int) * 2 ^ (W - 8).toNat % 4294967296)) ((v : Int) % (2 ^ (8 - q) % 4294967296) * 2 ^ (W - 8).toNat % 4294967296) =
      ((s ^^^ v * 2 ^ (wd - 8) ^^^ (v % 2 ^ (8 - q)) * 2 ^ (wd - 8) : Nat) : Int) ∧ ¬ ((2 : Int) ^ (8 - q) % 4294967296 = 0) := by
  subst hW
  obtain ⟨w1, w2, -, hp, -, w6, -⟩ := hk.w
  have e8 : 2 ^ wd = 256 * 2 ^ (wd - 8) := by rw [show (256 : Nat) = 2 ^ 8 from rfl, ← Nat.pow_add]; congr 1; omega
  have ew : ((wd : Int) - 8).toNat = wd - 8 := by omega
  have a1 : v * 2 ^ (wd - 8) < 2 ^ wd := by rw [e8]; exact Nat.mul_lt_mul_of_pos_right hv8 (Nat.two_pow_pos _)
  have hm : v % 2 ^ (8 - q) ≤ v := Nat.mod_le _ _
  have a2 : v % 2 ^ (8 - q) * 2 ^ (wd - 8) < 2 ^ wd := Nat.lt_of_le_of_lt (Nat.mul_le_mul_right _ hm) a1
  have hx : s ^^^ v * 2 ^ (wd - 8) < 2 ^ wd := Nat.xor_lt_two_pow hs a1
  have q8 : 2 ^ (8 - q) ≤ 256 := by rw [show (256 : Nat) = 2 ^ 8 from rfl]; exact Nat.pow_le_pow_right (by decide) (by omega)
  have qp : 0 < 2 ^ (8 - q) := Nat.two_pow_pos _
  have c1 : (v : Int) * 2 ^ (wd - 8) % 4294967296 = ((v * 2 ^ (wd - 8) : Nat) : Int) := by
    have : (v : Int) * 2 ^ (wd - 8) = ((v * 2 ^ (wd - 8) : Nat) : Int) := by push_cast; rfl
    rw [this]; omega
  have c0 : (2 : Int) ^ (8 - q) % 4294967296 = ((2 ^ (8 - q) : Nat) : Int) := by
    have : (2 : Int) ^ (8 - q) = ((2 ^ (8 - q) : Nat) : Int) := by push_cast; rfl
    rw [this]; omega
  have c2 : (v : Int) % ((2 ^ (8 - q) : Nat) : Int) * 2 ^ (wd - 8) % 4294967296 = ((v % 2 ^ (8 - q) * 2 ^ (wd - 8) : Nat) : Int) := by
    have : (v : Int) % ((2 ^ (8 - q) : Nat) : Int) * 2 ^ (wd - 8) = ((v % 2 ^ (8 - q) * 2 ^ (wd - 8) : Nat) : Int) := by push_cast; rfl
    rw [this]; omega
  rw [ew, c1, c0, c2, bits_nat32 _ _ (by omega) (by omega), bits_nat32 _ _ (by omega) (by omega)]
  refine ⟨?_, rfl, by omega⟩
  rw [show 8 - 8 = 0 from rfl, Nat.pow_zero, Nat.mod_one, Nat.zero_mul, Nat.xor_zero]
set_option maxRecDepth 100000 in
set_option maxHeartbeats 1000000 in
theorem rsum_knd {wd st p : Nat} (hk : Knd wd st p) (A : Option Addr) (c : Nat) (l : List Int) (n : Int) (w : World) (h0 : 0 ≤ n) (hn : n ≤ 8 * l.length)
    (hl : l.length ≤ 140737488351232) (hlu : ∀ x ∈ l, 0 ≤ x ∧ x ≤ 255) (hr : ReadsInt w .u8 A l.length l) :
    Calls Try.prog 78 #[.int .i64 wd, .slice A l.length c, .int .i64 n] w
      fun e w' => e = .returned (.int .u32 ((sumN wd st p l n.toNat : Nat) : Int)) ∧ w' = w := by
  have HLU := Lib.hid hlu
  clear hlu
  obtain ⟨w1, w2, -⟩ := hk.w
  obtain ⟨W, hW⟩ : ∃ W : Int, W = wd := ⟨_, rfl⟩
  have w1' : 8 ≤ W := by omega
  have w2' : W ≤ 24 := by omega
  rw [← hW]
  have HW := Lib.hid hW
  clear w1 w2 hW
  obtain ⟨top, et, htop, htl⟩ : ∃ top : Nat, (2 : Int) ^ (W.toNat - 1) % 4294967296 = top ∧ Hid (top = 2 ^ (wd - 1)) ∧ top ≤ 8388608 := by
    have e : W.toNat = wd := by have := HW.out; omega
    rw [e]
    cases hk <;> exact ⟨_, rfl, rfl, by decide⟩
  go_enter Try.func78, Try.ntmps78
  go_wp2_with (go_at_call 76; refine (kind_knd hk _ HW.out _).mono ?_; rintro e w1 ⟨rfl, rfl⟩)
  simp only [et]
  go_loopg [7, 11] (n.toNat + 8) (fun g s i wr => ∃ k : Nat, 8 * k ≤ n + 7 ∧ g = n.toNat + 8 - 8 * k ∧ i = .int .i64 k ∧ s = .int .u32 ((sumN wd st p l (min (8 * k) n.toNat) : Nat) : Int) ∧ wr = w)
  case atStart => exact ⟨0, by omega, by omega, rfl, by simp [sumN, Crc.feed], rfl⟩
  case round =>
    obtain ⟨k, hkn, rfl, rfl, rfl, rfl⟩ := hrel
    by_cases hlt : 8 * (k : Int) < n
    · have emin : min (8 * k) n.toNat = 8 * k := by omega
      rw [emin]
      obtain ⟨ad, rfl, hcell⟩ := hr.at_ (k : Int) (by omega) (by omega)
      rw [Int.toNat_natCast] at hcell
      have hrg := rd_byte HLU.out (k : Int)
      obtain ⟨v, hv⟩ := Int.eq_ofNat_of_zero_le hrg.1
      rw [hv] at hcell
      obtain ⟨q, hq⟩ : ∃ q : Nat, min (n - 8 * k) 8 = (q : Int) := ⟨(min (n - 8 * k) 8).toNat, by omega⟩
      have hv8 : v < 256 := by omega
      have hq1 : 1 ≤ q := by omega
      have hq2 : q ≤ 8 := by omega
      have hs := sumN_lt hk l (8 * k)
      have hS := byte_step hk l k q v _ hv hv8 hq1 hq2 hs
      have hN := sumN_add wd st p l (8 * k) q
      have hM := ref_mask hk W HW.out _ v q hs hv8
      obtain ⟨S, hSd⟩ : ∃ S : Nat, S = sumN wd st p l (8 * k) ^^^ v * 2 ^ (wd - 8) ^^^ (v % 2 ^ (8 - q)) * 2 ^ (wd - 8) := ⟨_, rfl⟩
      obtain ⟨B, hB⟩ : ∃ B : Nat, B = sumN wd st p l (8 * k) := ⟨_, rfl⟩
      have hM2 := hM.2.1
      have hM1 := hM.1
      have hz := hM.2.2
      rw [← hSd] at hS hM2
      rw [hS.2] at hN
      have HN := Lib.hid hN
      have HS := Lib.hid hS.1
      rw [← hB] at hM1 hM2
      rw [← hB]
      have hXb : S < 16777216 := by have := hk.w.2.2.2.2.2.1; omega
      have hq8 : ¬ n - 8 * (k : Int) < 8 → q = 8 := by omega
      have hM8 : ¬ n - 8 * (k : Int) < 8 → bits .xor .u32 (B : Int) ((v : Int) * 2 ^ (W - 8).toNat % 4294967296) = (S : Int) := fun h => by
        rw [hM1, hSd, hq8 h, hB]
      have hqs : n - 8 * (k : Int) < 8 → n - 8 * (k : Int) = q := fun h => by omega
      have hqg : ¬ n - 8 * (k : Int) < 8 → (if (8 : Int) < n - 8 * (k : Int) then 8 else n - 8 * (k : Int)) = q := fun h => by split <;> omega
      have HMIN : Hid (min (8 * (k + 1)) n.toNat = 8 * k + q) := by show _ = _; omega
      clear hS hs hSd hN hv hrg hM hM1 hB emin
      by_cases h8 : n - 8 * (k : Int) < 8
      · have hqn := hqs h8
        have hq7 : q < 8 := by omega
        clear hqs hqg hM8 hq8 hq h8
        have hdq : decide ((q : Int) < 8) = true := decide_eq_true (by omega)
        go_wp2
        go_loopg [7, 13] q (fun g s j wr' => ∃ j' X : Nat, j' ≤ q ∧ g = q - j' ∧ j = .int .i64 j' ∧ s = .int .u32 X ∧ X < 16777216 ∧ Hid (X = Crc.feed wd p (fun _ => 0) j' 0 S ∧ X < 2 ^ wd) ∧ wr' = wr)
        case atStart => exact ⟨0, S, by omega, by omega, rfl, rfl, hXb, ⟨rfl, HS.out⟩, rfl⟩
        case round =>
          obtain ⟨j, X, hj, rfl, rfl, rfl, hXc, hX, rfl⟩ := hrel
          by_cases hlt' : j < q
          · by_cases ht : top ≤ X
            · have hfin := Lib.hid ((nx0_top hk (q := 0) htop.out hX.out).1 ht)
              have hfin2 := (nx0_top hk (q := 0) htop.out hX.out).2.2
              have HF2 := Lib.hid hfin2
              clear hfin2
              go_wp2
              go_roundg (q - (j + 1))
              case measure => omega
              case rel => exact ⟨j + 1, _, by omega, rfl, by go_num, by rw [hfin.out], HF2.out.2, ⟨rfl, HF2.out.1⟩, rfl⟩
            · have hfin := Lib.hid ((nx0_top hk (q := 0) htop.out hX.out).2.1 ht)
              have hfin2 := (nx0_top hk (q := 0) htop.out hX.out).2.2
              have HF2 := Lib.hid hfin2
              clear hfin2
              go_wp2
              go_roundg (q - (j + 1))
              case measure => omega
              case rel => exact ⟨j + 1, _, by omega, rfl, by go_num, by rw [hfin.out], HF2.out.2, ⟨rfl, HF2.out.1⟩, rfl⟩
          · have hjq : j = q := by omega
            subst hjq
            go_wp2
            go_roundg (n.toNat + 8 - 8 * (k + 1))
            case measure => omega
            case rel => exact ⟨k + 1, by omega, rfl, by go_num, by rw [HMIN.out, HN.out, ← hX.out.1], rfl⟩
      · have hqn := hqg h8
        have hE := hM8 h8
        have hq7 : 8 ≤ q := by omega
        clear hqs hqg hM8 hq8 hq hz hM2
        have hdq : decide ((q : Int) < 8) = false := decide_eq_false (by omega)
        go_wp2
        go_loopg [7, 13] q (fun g s j wr' => ∃ j' X : Nat, j' ≤ q ∧ g = q - j' ∧ j = .int .i64 j' ∧ s = .int .u32 X ∧ X < 16777216 ∧ Hid (X = Crc.feed wd p (fun _ => 0) j' 0 S ∧ X < 2 ^ wd) ∧ wr' = wr)
        case atStart => exact ⟨0, S, by omega, by omega, rfl, rfl, hXb, ⟨rfl, HS.out⟩, rfl⟩
        case round =>
          obtain ⟨j, X, hj, rfl, rfl, rfl, hXc, hX, rfl⟩ := hrel
          by_cases hlt' : j < q
          · by_cases ht : top ≤ X
            · have hfin := Lib.hid ((nx0_top hk (q := 0) htop.out hX.out).1 ht)
              have hfin2 := (nx0_top hk (q := 0) htop.out hX.out).2.2
              have HF2 := Lib.hid hfin2
              clear hfin2
              go_wp2
              go_roundg (q - (j + 1))
              case measure => omega
              case rel => exact ⟨j + 1, _, by omega, rfl, by go_num, by rw [hfin.out], HF2.out.2, ⟨rfl, HF2.out.1⟩, rfl⟩
            · have hfin := Lib.hid ((nx0_top hk (q := 0) htop.out hX.out).2.1 ht)
              have hfin2 := (nx0_top hk (q := 0) htop.out hX.out).2.2
              have HF2 := Lib.hid hfin2
              clear hfin2
              go_wp2
              go_roundg (q - (j + 1))
              case measure => omega
              case rel => exact ⟨j + 1, _, by omega, rfl, by go_num, by rw [hfin.out], HF2.out.2, ⟨rfl, HF2.out.1⟩, rfl⟩
          · have hjq : j = q := by omega
            subst hjq
            go_wp2
            go_roundg (n.toNat + 8 - 8 * (k + 1))
            case measure => omega
            case rel => exact ⟨k + 1, by omega, rfl, by go_num, by rw [HMIN.out, HN.out, ← hX.out.1], rfl⟩
    · have hkn' : min (8 * k) n.toNat = n.toNat := by omega
      rw [hkn']
      go_wp2
      go_ret
      exact ⟨rfl, rfl⟩
end Go.Proofs.Ytcjnfdhdcoobgaa.Chk
