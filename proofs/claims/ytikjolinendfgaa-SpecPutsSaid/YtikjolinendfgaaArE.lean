/- The walks of bytes.Clone, and of an eye (package bits): Open, Bit. -/
import Derived.Test.YtikjolinendfgaaBitsP
import Derived.Test.YtikjolinendfgaaMore
set_option linter.unusedVariables false
set_option linter.unusedSimpArgs false
namespace Go.Proofs.Ytikjolinendfgaa.Bit
open Go.RowKit Go.Proofs.YtikjolinendfgaaW.PrintWords Go.Proofs.YtikjolinendfgaaW.PrintLast Go.Proofs.YtikjolinendfgaaW.PrintMore

theorem info8 : (Try.prog.info? 5).map (fun i => (i.zero, i.size, i.bytes)) = some (some (.int .u8 0), 1, 1) := by kernel_rfl
/-- a slice of bytes of the call's own comes back -/
def Row8 (l : List Int) (w : World) (e : Ending) (w' : World) : Prop := ∃ v, e = .returned v ∧ w'.ownsRow w.heap.size 5 1 v l.length (nums .u8 l) ∧ Below w.heap.size w w'
theorem own_empty (W : World) : (W.alloc (.cells #[] 5)).ownsRow W.heap.size 5 1 (.slice (some ⟨W.heap.size, 0, none⟩) 0 0) ([] : List Int).length (nums .u8 []) :=
  own_lit W W.heap.size 5 .u8 [] (Nat.le_refl _) (by decide)
set_option maxRecDepth 100000 in
set_option maxHeartbeats 1000000 in
theorem clone_any (A : Option Addr) (n c : Nat) (l : List Int) (w : World) (hl : l.length ≤ 140737488351232) (hr : ReadsInt w .u8 A n l) :
    Calls Try.prog 53 #[.slice A n c] w (Row8 l w) := by
  obtain rfl := hr.1
  have hnil := fun (w : World) (a : Option Addr) (n c : Nat) => Lib.run_eql_slice_nil (P := Try.prog) w 41 5 a n c 0 0 Try.underlying41
  cases A with
  | none =>
    have h0 : l = [] := by
      rcases Nat.eq_zero_or_pos l.length with h | h
      · exact List.length_eq_zero_iff.1 h
      · obtain ⟨ad, h1, -⟩ := hr.2.2 h; cases h1
    subst h0
    go_enter Try.func53, Try.ntmps53
    go_wp2
    go_ret
    exact ⟨_, rfl, own_nil _ _ _ _, br w⟩
  | some ad =>
    go_enter Try.func53, Try.ntmps53
    go_wp2_with (at_builtin; go_loud (refine print_append_row w.heap.size rfl (.tmp 5) (.tmp 6) 41 5 .u8 1 rfl Try.underlying41 info8 (by decide) _ [] l _ _ _ rfl rfl (own_empty w) (hr.below (ba (br w) _)) (ba (br w) _) (ba (br w) _).size (by simp; omega) ?_); intro v1 w1 hown1 hB1 hg1 hat1)
    go_ret
    exact ⟨_, rfl, by simpa using hown1, hB1⟩
/-- a pad or an eye: how many bits were taken from the front and the back, its bytes -/
def EndsAt (W : World) (b : Nat) (F B : Nat) (v : Value) (t : TypeId) : Prop := W.heap[b]? = some (.cells #[.int .i64 F, .int .i64 B, v] t (0, 0))
theorem EndsAt.c2 {W : World} {b F B : Nat} {v : Value} {t : TypeId} (h : EndsAt W b F B v t) : W.cell? ⟨b, 2, none⟩ = some v := (blk_cell h 2).trans rfl
theorem bits_and8 (a b : Nat) (ha : a < 256) (hb : b < 256) : bits .and .u8 (a : Int) (b : Int) = ((a &&& b : Nat) : Int) := by
  have ha' : a % 2 ^ IntKind.u8.bits = a := Nat.mod_eq_of_lt ha
  have hb' : b % 2 ^ IntKind.u8.bits = b := Nat.mod_eq_of_lt hb
  have hx : a &&& b < 2 ^ 8 := Nat.and_lt_two_pow a hb
  simp only [bits, BitVec.ofInt_natCast, BitVec.toNat_and, BitVec.toNat_ofNat, ha', hb']
  rw [IntKind.wrap_u8]; omega
theorem wt_shr (r : Nat) (h : r < 8) : (128 : Int) / 2 ^ r = ((2 ^ (7 - r) : Nat) : Int) := by
  have : r = 0 ∨ r = 1 ∨ r = 2 ∨ r = 3 ∨ r = 4 ∨ r = 5 ∨ r = 6 ∨ r = 7 := by omega
  rcases this with rfl | rfl | rfl | rfl | rfl | rfl | rfl | rfl <;> rfl
theorem add_block (a : Addr) (j : Nat) : (a.add j).block = a.block := by unfold Addr.add; split <;> rfl
/-- an eye on n bytes in block b -/
structure EyeAt (W : World) (b n F B : Nat) (O : Nat → Bool) (A : Option Addr) (c : Nat) : Prop where
  at_ : EndsAt W b F B (.slice A n c) 88
  rd : ReadsInt W .u8 A n (bytesL O n)
  ne : ∀ ad, A = some ad → ad.block ≠ b
section
variable {W : World} {b n F B : Nat} {O : Nat → Bool} {A : Option Addr} {c : Nat}
theorem EyeAt.drew (h : EyeAt W b n F B O A c) (k : Nat) : EyeAt (W.drewN k) b n F B O A c := ⟨h.at_, h.rd, h.ne⟩
theorem EyeAt.byte (h : EyeAt W b n F B O A c) (q : Nat) (hq : q < n) : ∃ ad, A = some ad ∧ W.cell? (ad.add q) = some (.int .u8 (byteN O q)) := by
  obtain ⟨ad, e, hc⟩ := h.rd.2.2 (by omega)
  refine ⟨ad, e, ?_⟩
  rw [hc q hq, bytesL_at _ _ _ hq]
end
set_option maxRecDepth 100000 in
set_option maxHeartbeats 400000 in
theorem one_any (b n F B : Nat) (O : Nat → Bool) (A : Option Addr) (c : Nat) (p q wt : Nat) (w : World) (h : EyeAt w b n F B O A c) (hp : p < 8 * n) (hq : q = p / 8) (hwt : wt = 2 ^ (7 - p % 8)) :
    Calls Try.prog 70 #[.pointer (some ⟨b, 0, none⟩), .int .i64 q, .int .u8 wt] w fun e w' => e = .returned (.int .u32 (((O p).toNat : Nat) : Int)) ∧ w' = w := by
  have c2 := h.at_.c2
  have hqn : q < n := by omega
  obtain ⟨ad, rfl, y1⟩ := h.byte q hqn
  have hw8 : wt < 256 := by rw [hwt]; exact Nat.lt_of_le_of_lt (Nat.pow_le_pow_right (by decide) (show 7 - p % 8 ≤ 7 by omega)) (by decide)
  have hpos : 0 < wt := by rw [hwt]; exact Nat.two_pow_pos _
  have hand : bits .and .u8 ((byteN O q : Nat) : Int) wt = (((O p).toNat * wt : Nat) : Int) := by
    rw [bits_and8 _ _ (byteN_lt O q) hw8, hq, hwt, byteN_and]
  generalize byteN O q = by_ at y1 hand
  have hz : (bits .and .u8 (by_ : Int) wt != 0) = O p := by
    rw [hand]
    cases O p with
    | true => simp only [Bool.toNat_true, Nat.one_mul]; rw [bne_iff_ne]; omega
    | false => simp
  clear hand hq hwt hp h
  cases hO : O p with
  | true =>
    rw [hO] at hz
    clear hO
    go_enter Try.func70, Try.ntmps70
    go_wp2
    go_ret
    exact ⟨rfl, rfl⟩
  | false =>
    rw [hO] at hz
    clear hO
    go_enter Try.func70, Try.ntmps70
    go_wp2
    go_ret
    exact ⟨rfl, rfl⟩
set_option maxHeartbeats 400000 in
theorem bit_nil (k : Int) (w : World) :
    Calls Try.prog 64 #[.pointer none, .int .i64 k] w fun e w' => e = .returned (.int .i64 0) ∧ w' = w := by
  go_enter Try.func64, Try.ntmps64
  go_wp2
  go_ret
  exact ⟨rfl, rfl⟩
/-- the bit at a place, 0 beyond -/
def bitI (O : Nat → Bool) (n : Nat) (i : Int) : Int := if 0 ≤ i ∧ i < 8 * (n : Int) then ((O i.toNat).toNat : Int) else 0
set_option maxRecDepth 100000 in
set_option maxHeartbeats 400000 in
theorem bit_any (b n F B : Nat) (O : Nat → Bool) (A : Option Addr) (c : Nat) (i : Int) (w : World) (h : EyeAt w b n F B O A c) (hn : n ≤ 100000) (hi : i ≤ 9223372036854775807) :
    Calls Try.prog 64 #[.pointer (some ⟨b, 0, none⟩), .int .i64 i] w fun e w' => e = .returned (.int .i64 (bitI O n i)) ∧ ∃ k, w' = w.drewN k := by
  have c2 := h.at_.c2
  by_cases h0 : 0 ≤ i
  · by_cases h1 : i < 8 * (n : Int)
    · obtain ⟨p, rfl⟩ := Int.eq_ofNat_of_zero_le h0
      have e : bitI O n (p : Int) = ((O p).toNat : Int) := if_pos ⟨h0, h1⟩
      rw [e]
      clear e
      have T := one_any b n F B O A c p (p / 8) (2 ^ (7 - p % 8)) w h (by omega) rfl rfl
      obtain ⟨wt, hwt⟩ : ∃ wt, wt = 2 ^ (7 - p % 8) := ⟨_, rfl⟩
      have e1 : (128 : Int) / 2 ^ (p % 8) = (wt : Int) := by rw [wt_shr _ (by omega), hwt]
      rw [← hwt] at T
      have e2 : ((p / 8 : Nat) : Int) = (p : Int) / 8 := by omega
      rw [e2] at T
      have hb := toNat_le (O p)
      generalize (O p).toNat = bt_ at T hb
      have E1 := Lib.hid e1
      clear hwt e1 e2 h
      go_enter Try.func64, Try.ntmps64
      go_wp2_with fail
      rw [E1.out]
      refine T.mono ?_
      rintro e w1 ⟨rfl, rfl⟩
      go_wp2
      go_ret
      exact ⟨rfl, 0, rfl⟩
    · have e : bitI O n i = 0 := if_neg (by omega)
      rw [e]
      clear e h
      go_enter Try.func64, Try.ntmps64
      go_wp2
      go_ret
      exact ⟨rfl, 0, rfl⟩
  · have e : bitI O n i = 0 := if_neg (by omega)
    rw [e]
    clear e h
    go_enter Try.func64, Try.ntmps64
    go_wp2
    go_ret
    exact ⟨rfl, 0, rfl⟩
set_option maxRecDepth 100000 in
set_option maxHeartbeats 400000 in
theorem open_yes (A : Option Addr) (n c : Nat) (O : Nat → Bool) (w : World) (hn : n ≤ 512) (hr : ReadsInt w .u8 A n (bytesL O n)) :
    Calls Try.prog 30 #[.slice A n c] w fun e w' => ∃ b A' c', e = .returned (.tuple #[.pointer (some ⟨b, 0, none⟩), .int .i64 0]) ∧ EyeAt w' b n 0 0 O A' c' ∧ Below w.heap.size w w' ∧ w.heap.size ≤ b ∧ ∀ ad, A' = some ad → ad.block < b := by
  have T := clone_any A n c _ w (by rw [bytesL_length]; omega) hr
  clear hr
  go_enter Try.func30, Try.ntmps30
  go_wp2_with fail
  refine T.mono ?_
  rintro e w1 ⟨v, rfl, hown, hb⟩
  obtain ⟨A', c', rfl, hr'⟩ := own_reads hown
  have hlt := own_lt hown
  rw [bytesL_length] at hr' hlt ⊢
  have HLT := Lib.hid hlt
  have HR := Lib.hid hr'
  clear hlt hown hr' T
  go_wp2
  go_ret2
  refine ⟨_, A', c', rfl, ⟨?_, HR.out.below (ba (br _) _), fun ad e => ?_⟩, ba hb _, hb.size, fun ad e => by subst e; exact HLT.out ad.block rfl⟩
  · unfold EndsAt; rw [heap_alloc_new]; rfl
  · subst e
    have := HLT.out ad.block rfl
    omega
set_option maxRecDepth 100000 in
set_option maxHeartbeats 400000 in
theorem open_long (A : Option Addr) (n c : Nat) (w : World) (hn : 512 < n) (hn2 : n ≤ 140737488351232) :
    Calls Try.prog 30 #[.slice A n c] w fun e w' => e = .returned (.tuple #[.pointer none, .int .i64 2]) ∧ w' = w := by
  go_enter Try.func30, Try.ntmps30
  go_wp2
  go_ret2
  exact ⟨rfl, rfl⟩
end Go.Proofs.Ytikjolinendfgaa.Bit
