/- The walks of the package bits: what is taken from either end, pads and eyes. -/
import Derived.Test.YtcjnfdhdcoobgaaBitsP
import Derived.Test.YtcjnfdhdcoobgaaBytes
set_option linter.unusedVariables false
set_option linter.unusedSimpArgs false
namespace Go.Proofs.Ytcjnfdhdcoobgaa.Bit
open Go.RowKit Go.Proofs.YtcjnfdhdcoobgaaW.PrintWords Go.Proofs.YtcjnfdhdcoobgaaW.PrintLast Go.Proofs.YtcjnfdhdcoobgaaW.PrintMore Go.Proofs.Ytcjnfdhdcoobgaa.Byt

/-- a pad or an eye: how many bits were taken from the front and the back, its bytes -/
def EndsAt (W : World) (b : Nat) (F B : Nat) (v : Value) (t : TypeId) : Prop := W.heap[b]? = some (.cells #[.int .i64 F, .int .i64 B, v] t (0, 0))
section
variable {W : World} {b F B : Nat} {v : Value} {t : TypeId}
theorem EndsAt.c0 (h : EndsAt W b F B v t) : W.cell? ⟨b, 0, none⟩ = some (.int .i64 F) := (blk_cell h 0).trans rfl
theorem EndsAt.c1 (h : EndsAt W b F B v t) : W.cell? ⟨b, 1, none⟩ = some (.int .i64 B) := (blk_cell h 1).trans rfl
theorem EndsAt.c2 (h : EndsAt W b F B v t) : W.cell? ⟨b, 2, none⟩ = some v := (blk_cell h 2).trans rfl
theorem EndsAt.free (h : EndsAt W b F B v t) (o : Nat) : W.frozen? ⟨b, o, none⟩ = false := blk_frozen h o
theorem EndsAt.s0 (h : EndsAt W b F B v t) (n : Nat) : EndsAt (W.setCell ⟨b, 0, none⟩ (.int .i64 n)) b n B v t := (blk_set h _ _).trans rfl
theorem EndsAt.s1 (h : EndsAt W b F B v t) (n : Nat) : EndsAt (W.setCell ⟨b, 1, none⟩ (.int .i64 n)) b F n v t := (blk_set h _ _).trans rfl
theorem EndsAt.drew (h : EndsAt W b F B v t) (n : Nat) : EndsAt (W.drewN n) b F B v t := h
end


theorem wt_shr (r : Nat) (h : r < 8) : (128 : Int) / 2 ^ r = ((2 ^ (7 - r) : Nat) : Int) := by
  have : r = 0 ∨ r = 1 ∨ r = 2 ∨ r = 3 ∨ r = 4 ∨ r = 5 ∨ r = 6 ∨ r = 7 := by omega
  rcases this with rfl | rfl | rfl | rfl | rfl | rfl | rfl | rfl <;> rfl
theorem wt_shl (r : Nat) (h : r < 8) : (2 : Int) ^ r % 256 = ((2 ^ r : Nat) : Int) := by
  have : r = 0 ∨ r = 1 ∨ r = 2 ∨ r = 3 ∨ r = 4 ∨ r = 5 ∨ r = 6 ∨ r = 7 := by omega
  rcases this with rfl | rfl | rfl | rfl | rfl | rfl | rfl | rfl <;> rfl
theorem ret_two {k1 k2 : IntKind} {a b c d : Int} (h1 : a = c) (h2 : b = d) : Ending.returned (.tuple #[.int k1 a, .int k2 b]) = .returned (.tuple #[.int k1 c, .int k2 d]) := by rw [h1, h2]

set_option maxRecDepth 100000 in
set_option maxHeartbeats 400000 in
theorem ahead_any (b F B : Nat) (v : Value) (t : TypeId) (w : World) (h : EndsAt w b F B v t) (hF : F < 1000000) :
    Calls Try.prog 50 #[.pointer (some ⟨b, 0, none⟩)] w fun e w' => e = .returned (.tuple #[.int .i64 (F / 8 : Nat), .int .u8 (2 ^ (7 - F % 8) : Nat)]) ∧ ∃ k, w' = (w.setCell ⟨b, 0, none⟩ (.int .i64 (F + 1 : Nat))).drewN k := by
  have c0 := h.c0
  have c1 := h.free 0
  clear h
  go_enter Try.func50, Try.ntmps50
  go_wp2
  go_quiet (fail)
  go_wp2
  go_ret2
  exact ⟨ret_two (by omega) (wt_shr _ (by omega)), _, rfl⟩

set_option maxRecDepth 100000 in
set_option maxHeartbeats 400000 in
theorem behind_any (b F B n : Nat) (v : Value) (t : TypeId) (w : World) (h : EndsAt w b F B v t) (hn : n ≤ 100000) (hB : B < 8 * n) :
    Calls Try.prog 49 #[.pointer (some ⟨b, 0, none⟩), .int .i64 n] w fun e w' => e = .returned (.tuple #[.int .i64 ((8 * n - 1 - B) / 8 : Nat), .int .u8 (2 ^ (7 - (8 * n - 1 - B) % 8) : Nat)]) ∧ ∃ k, w' = (w.setCell ⟨b, 1, none⟩ (.int .i64 (B + 1 : Nat))).drewN k := by
  have c0 := h.c1
  have c1 := h.free 1
  clear h
  go_enter Try.func49, Try.ntmps49
  go_wp2
  go_quiet (fail)
  go_wp2
  go_ret2
  exact ⟨ret_two (by omega) (by rw [wt_shl _ (by omega)]; congr 3; omega), _, rfl⟩

set_option maxRecDepth 100000 in
set_option maxHeartbeats 400000 in
theorem left_any (b F B n : Nat) (v : Value) (t : TypeId) (w : World) (h : EndsAt w b F B v t) (hn : n ≤ 100000) (hB : F + B ≤ 8 * n) :
    Calls Try.prog 53 #[.pointer (some ⟨b, 0, none⟩), .int .i64 n] w fun e w' => e = .returned (.int .i64 ((8 * n - F - B : Nat) : Int)) ∧ ∃ k, w' = w.drewN k := by
  have c0 := h.c0
  have c1 := h.c1
  clear h
  go_enter Try.func53, Try.ntmps53
  go_wp2
  go_quiet (fail)
  go_wp2
  go_ret
  exact ⟨ret_int (by omega), _, rfl⟩

/-- may k bits be taken of L? -/
def mayE (L : Nat) (k : Int) : Int := if k < 0 ∨ 32 < k then 1 else if (L : Int) < k then 50 else 0

set_option maxRecDepth 100000 in
set_option maxHeartbeats 400000 in
theorem may_any (b F B n : Nat) (v : Value) (t : TypeId) (k : Int) (w : World) (h : EndsAt w b F B v t) (hn : n ≤ 100000) (hB : F + B ≤ 8 * n) :
    Calls Try.prog 68 #[.pointer (some ⟨b, 0, none⟩), .int .i64 k, .int .i64 n] w fun e w' => e = .returned (.int .i64 (mayE (8 * n - F - B) k)) ∧ ∃ k, w' = w.drewN k := by
  have T := left_any b F B n v t w h hn hB
  clear h
  generalize 8 * n - F - B = L at T
  have e : mayE L k = if k < 0 ∨ 32 < k then 1 else if (L : Int) < k then 50 else 0 := rfl
  by_cases h1 : k < 0
  · rw [if_pos (.inl h1)] at e
    rw [e]
    go_enter Try.func68, Try.ntmps68
    go_wp2
    go_ret
    exact ⟨rfl, 0, rfl⟩
  · by_cases h2 : 32 < k
    · rw [if_pos (.inr h2)] at e
      rw [e]
      go_enter Try.func68, Try.ntmps68
      go_wp2
      go_ret
      exact ⟨rfl, 0, rfl⟩
    · rw [if_neg (by omega)] at e
      by_cases h3 : (L : Int) < k
      · rw [if_pos h3] at e
        rw [e]
        go_enter Try.func68, Try.ntmps68
        go_wp2_with fail
        refine T.mono ?_
        rintro e w1 ⟨rfl, k1, rfl⟩
        go_wp2
        go_ret
        exact ⟨rfl, _, rfl⟩
      · rw [if_neg h3] at e
        rw [e]
        go_enter Try.func68, Try.ntmps68
        go_wp2_with fail
        refine T.mono ?_
        rintro e w1 ⟨rfl, k1, rfl⟩
        go_wp2
        go_ret
        exact ⟨rfl, _, rfl⟩

theorem bytesL_zero (n : Nat) : bytesL (fun _ => false) n = List.replicate n 0 := by
  apply List.ext_getElem
  · simp [bytesL]
  · intro i h1 h2; simp [bytesL, byteN]
/-- a pad: n bytes in block g, ends in block g + 1 -/
structure PadAt (W : World) (g n F B : Nat) (O : Nat → Bool) : Prop where
  at_ : EndsAt W (g + 1) F B (.slice (some ⟨g, 0, none⟩) n n) 96
  own : W.ownsRow g 5 1 (.slice (some ⟨g, 0, none⟩) n n) n (nums .u8 (bytesL O n))

set_option maxRecDepth 100000 in
set_option maxHeartbeats 400000 in
theorem new_yes (n : Nat) (hn : n ≤ 512) (w : World) :
    Calls Try.prog 14 #[.int .i64 n] w fun e w' => e = .returned (.tuple #[.pointer (some ⟨w.heap.size + 1, 0, none⟩), .int .i64 0]) ∧ PadAt w' w.heap.size n 0 0 (fun _ => false) ∧ Below w.heap.size w w' ∧ w'.heap.size = w.heap.size + 2 := by
  have hmk := print_make (P := Try.prog) 37 5 .u8 1 Try.underlying37 info8 (by decide) n (by omega)
  go_enter Try.func14, Try.ntmps14
  go_wp2
  go_ret2
  have h0 := own_made w w.heap.size 5 .u8 n (Nat.le_refl _) (by omega)
  refine ⟨rfl, ⟨?_, ?_⟩, ba (ba (br w) _) _, by simp⟩
  · unfold EndsAt; rw [show w.heap.size + 1 = (w.alloc (.cells (madeCells #[.int .u8 0] n) 5)).heap.size from by simp, heap_alloc_new]; rfl
  · rw [bytesL_zero]
    exact pw_own_below h0 (ba (br _) _)
set_option maxHeartbeats 400000 in
theorem new_no (n : Int) (h : n < 0 ∨ 512 < n) (w : World) :
    Calls Try.prog 14 #[.int .i64 n] w fun e w' => e = .returned (.tuple #[.pointer none, .int .i64 (if n < 0 then 1 else 2)]) ∧ w' = w := by
  rcases h with h | h
  · rw [if_pos h]
    go_enter Try.func14, Try.ntmps14
    go_wp2
    go_ret2
    exact ⟨rfl, rfl⟩
  · rw [if_neg (by omega)]
    go_enter Try.func14, Try.ntmps14
    go_wp2
    go_ret2
    exact ⟨rfl, rfl⟩

/-- the call may change the blocks g and g + 1, and nothing else -/
structure Two (g : Nat) (w w' : World) : Prop where
  below : Below g w w'
  far : ∀ i, g + 1 < i → i < w.heap.size → w'.heap[i]? = w.heap[i]?
  size : w'.heap.size = w.heap.size
theorem Two.refl (g : Nat) (w : World) : Two g w w := ⟨Below.refl _ _, fun _ _ _ => rfl, rfl⟩
theorem Two.trans {g : Nat} {w w1 w2 : World} (h : Two g w w1) (k : Two g w1 w2) : Two g w w2 := ⟨h.below.trans k.below, fun i h1 h2 => (k.far i h1 (by rw [h.size]; exact h2)).trans (h.far i h1 h2), k.size.trans h.size⟩
theorem Two.drew {g : Nat} {w w1 : World} (h : Two g w w1) (n : Nat) : Two g w (w1.drewN n) := ⟨⟨h.below.os, h.below.tape, h.below.output, h.below.size, h.below.block⟩, h.far, h.size⟩
theorem Two.set {g : Nat} {w w1 : World} (h : Two g w w1) {b : Nat} (hb : b = g ∨ b = g + 1) (o : Nat) (v : Value) : Two g w (w1.setCell ⟨b, o, none⟩ v) :=
  ⟨h.below.setCell (p := ⟨b, o, none⟩) (by show g ≤ b; omega) v, fun i h1 h2 => (RowKit.Below.heap_setCell w1 ⟨b, o, none⟩ v i (by show i ≠ b; omega)).trans (h.far i h1 h2), by simpa using h.size⟩

section
variable {W : World} {g n F B : Nat} {O : Nat → Bool}
theorem PadAt.drew (h : PadAt W g n F B O) (k : Nat) : PadAt (W.drewN k) g n F B O := ⟨h.at_, own_move h.own fun _ _ => rfl⟩
theorem PadAt.s0 (h : PadAt W g n F B O) (x : Nat) : PadAt (W.setCell ⟨g + 1, 0, none⟩ (.int .i64 x)) g n x B O := ⟨h.at_.s0 x, own_setCell h.own (fun e => by injection e with e; simp at e) _⟩
theorem PadAt.s1 (h : PadAt W g n F B O) (x : Nat) : PadAt (W.setCell ⟨g + 1, 1, none⟩ (.int .i64 x)) g n F x O := ⟨h.at_.s1 x, own_setCell h.own (fun e => by injection e with e; simp at e) _⟩
/-- the byte of bit p -/
theorem PadAt.byte (h : PadAt W g n F B O) (p : Nat) (hp : p < 8 * n) : W.cell? ⟨g, p / 8, none⟩ = some (.int .u8 (byteN O (p / 8))) ∧ W.frozen? ⟨g, p / 8, none⟩ = false := by
  obtain ⟨h1, h2⟩ := own_at h.own ((p / 8 : Nat) : Int) (by omega) (by omega)
  unfold rd at h1
  rw [Int.toNat_natCast, bytesL_at _ _ _ (by omega)] at h1
  rw [Int.toNat_natCast] at h2
  exact ⟨h1, h2⟩
theorem PadAt.bit (h : PadAt W g n F B O) (p : Nat) (hp : p < 8 * n) : PadAt (W.setCell ⟨g, p / 8, none⟩ (.int .u8 ((byteN O (p / 8) ||| 2 ^ (7 - p % 8) : Nat) : Int))) g n F B (setb O p true) := by
  refine ⟨blk_far h.at_ (by show g + 1 ≠ g; omega) _, ?_⟩
  have := (own_store h.own ((p / 8 : Nat) : Int) ((byteN O (p / 8) ||| 2 ^ (7 - p % 8) : Nat) : Int)).1
  rw [Int.toNat_natCast, bytesL_set _ _ _ hp] at this
  exact this
end

theorem bits_or8 (a b : Nat) (ha : a < 256) (hb : b < 256) : bits .or .u8 (a : Int) (b : Int) = ((a ||| b : Nat) : Int) := by
  have ha' : a % 2 ^ IntKind.u8.bits = a := Nat.mod_eq_of_lt ha
  have hb' : b % 2 ^ IntKind.u8.bits = b := Nat.mod_eq_of_lt hb
  have hx : a ||| b < 2 ^ 8 := Nat.or_lt_two_pow ha hb
  simp only [bits, BitVec.ofInt_natCast, BitVec.toNat_or, BitVec.toNat_ofNat, ha', hb']
  rw [IntKind.wrap_u8]; omega
theorem bits_and8 (a b : Nat) (ha : a < 256) (hb : b < 256) : bits .and .u8 (a : Int) (b : Int) = ((a &&& b : Nat) : Int) := by
  have ha' : a % 2 ^ IntKind.u8.bits = a := Nat.mod_eq_of_lt ha
  have hb' : b % 2 ^ IntKind.u8.bits = b := Nat.mod_eq_of_lt hb
  have hx : a &&& b < 2 ^ 8 := Nat.and_lt_two_pow a hb
  simp only [bits, BitVec.ofInt_natCast, BitVec.toNat_and, BitVec.toNat_ofNat, ha', hb']
  rw [IntKind.wrap_u8]; omega
theorem bits_or32 (a b : Nat) (ha : a < 2 ^ 32) (hb : b < 2 ^ 32) : bits .or .u32 (a : Int) (b : Int) = ((a ||| b : Nat) : Int) := by
  have ha' : a % 2 ^ IntKind.u32.bits = a := Nat.mod_eq_of_lt ha
  have hb' : b % 2 ^ IntKind.u32.bits = b := Nat.mod_eq_of_lt hb
  have hx : a ||| b < 2 ^ 32 := Nat.or_lt_two_pow ha hb
  simp only [bits, BitVec.ofInt_natCast, BitVec.toNat_or, BitVec.toNat_ofNat, ha', hb']
  rw [IntKind.wrap_u32]; omega
theorem bits_and32_1 (a : Nat) (ha : a < 2 ^ 32) : bits .and .u32 (a : Int) 1 = ((a % 2 : Nat) : Int) := by
  have ha' : a % 2 ^ IntKind.u32.bits = a := Nat.mod_eq_of_lt ha
  have hx : a &&& 1 = a % 2 := Nat.and_one_is_mod a
  have h1 : (1 : Int) = ((1 : Nat) : Int) := rfl
  rw [h1]
  simp only [bits, BitVec.ofInt_natCast, BitVec.toNat_and, BitVec.toNat_ofNat, ha', show 1 % 2 ^ IntKind.u32.bits = 1 from rfl, hx]
  rw [IntKind.wrap_u32]; omega
theorem bit_test (v x : Nat) (hv : v < 2 ^ 32) (hx : x < 32) : (bits .and .u32 ((v : Int) / 2 ^ x) 1 == 1) = v.testBit x := by
  have e : ((v : Int) / 2 ^ x) = ((v / 2 ^ x : Nat) : Int) := by push_cast; rfl
  rw [e, bits_and32_1 _ (Nat.lt_of_le_of_lt (Nat.div_le_self _ _) hv), bit_div]
  cases v.testBit x <;> rfl

/-- the error of a write of v in k bits, L bits left -/
def putE (L v : Nat) (k : Int) : Int := if 0 ≤ k ∧ k < 32 ∧ v / 2 ^ k.toNat ≠ 0 then 1 else mayE L k
theorem putE_ok {L v k : Nat} (h : putE L v k = 0) : k ≤ 32 ∧ k ≤ L := by
  unfold putE at h
  split at h
  · cases h
  · unfold mayE at h
    split at h
    · cases h
    · split at h
      · cases h
      · omega

set_option maxRecDepth 100000 in
set_option maxHeartbeats 400000 in
theorem write_any (g n F B : Nat) (O : Nat → Bool) (v : Nat) (k : Int) (w : World) (h : PadAt w g n F B O) (hv : v < 2 ^ 32) (hn : n ≤ 100000) (hB : F + B ≤ 8 * n) :
    Calls Try.prog 48 #[.pointer (some ⟨g + 1, 0, none⟩), .int .u32 v, .int .i64 k] w fun e w' => e = .returned (.int .i64 (putE (8 * n - F - B) v k)) ∧ ∃ k, w' = w.drewN k := by
  have T := fun i => may_any (g + 1) F B n _ _ k (w.drewN i) h.at_ hn hB
  have c2 := h.at_.c2
  clear h
  generalize 8 * n - F - B = L at T
  have e : putE L v k = if 0 ≤ k ∧ k < 32 ∧ v / 2 ^ k.toNat ≠ 0 then 1 else mayE L k := rfl
  generalize mayE L k = m at T e
  by_cases h1 : 0 ≤ k
  · by_cases h2 : k < 32
    · obtain ⟨q, rfl⟩ := Int.eq_ofNat_of_zero_le h1
      rw [Int.toNat_natCast] at e
      by_cases h3 : v / 2 ^ q = 0
      · rw [if_neg (fun h => h.2.2 h3)] at e
        rw [e]
        have hne : ((v : Int) / 2 ^ q != 0) = false := by
          have : ((v : Int) / 2 ^ q) = ((v / 2 ^ q : Nat) : Int) := by push_cast; rfl
          rw [this, h3]; rfl
        clear e h3
        go_enter Try.func48, Try.ntmps48
        go_wp2
        go_quiet ((go_at_call 68; exact Calls.quiet_of (T _)))
        go_wp2
        go_ret
        exact ⟨rfl, _, rfl⟩
      · rw [if_pos ⟨h1, h2, h3⟩] at e
        rw [e]
        have hne : ((v : Int) / 2 ^ q != 0) = true := by
          have : ((v : Int) / 2 ^ q) = ((v / 2 ^ q : Nat) : Int) := by push_cast; rfl
          rw [this, bne_iff_ne]; omega
        clear e h3
        go_enter Try.func48, Try.ntmps48
        go_wp2
        go_ret
        exact ⟨rfl, 0, rfl⟩
    · rw [if_neg (fun h => h2 h.2.1)] at e
      rw [e]
      clear e
      go_enter Try.func48, Try.ntmps48
      go_wp2
      go_quiet ((go_at_call 68; exact Calls.quiet_of (T _)))
      go_wp2
      go_ret
      exact ⟨rfl, _, rfl⟩
  · rw [if_neg (fun h => h1 h.1)] at e
    rw [e]
    clear e
    go_enter Try.func48, Try.ntmps48
    go_wp2
    go_quiet ((go_at_call 68; exact Calls.quiet_of (T _)))
    go_wp2
    go_ret
    exact ⟨rfl, _, rfl⟩
set_option maxHeartbeats 400000 in
theorem write_nil (v k : Int) (w : World) :
    Calls Try.prog 48 #[.pointer none, .int .u32 v, .int .i64 k] w fun e w' => e = .returned (.int .i64 3) ∧ w' = w := by
  go_enter Try.func48, Try.ntmps48
  go_wp2
  go_ret
  exact ⟨rfl, rfl⟩

end Go.Proofs.Ytcjnfdhdcoobgaa.Bit
