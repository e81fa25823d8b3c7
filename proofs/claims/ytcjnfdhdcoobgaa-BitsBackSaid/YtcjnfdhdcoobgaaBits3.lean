/- The walks of the package bits: what is left, the bytes, what is read of an eye. -/
import Derived.Test.YtcjnfdhdcoobgaaBits2
set_option linter.unusedVariables false
set_option linter.unusedSimpArgs false
namespace Go.Proofs.Ytcjnfdhdcoobgaa.Bit
open Go.RowKit Go.Proofs.YtcjnfdhdcoobgaaW.PrintWords Go.Proofs.YtcjnfdhdcoobgaaW.PrintLast Go.Proofs.YtcjnfdhdcoobgaaW.PrintMore Go.Proofs.Ytcjnfdhdcoobgaa.Byt

set_option maxRecDepth 100000 in
set_option maxHeartbeats 400000 in
theorem pleft_any (g n F B : Nat) (O : Nat → Bool) (w : World) (h : PadAt w g n F B O) (hn : n ≤ 100000) (hB : F + B ≤ 8 * n) :
    Calls Try.prog 19 #[.pointer (some ⟨g + 1, 0, none⟩)] w fun e w' => e = .returned (.int .i64 ((8 * n - F - B : Nat) : Int)) ∧ ∃ k, w' = w.drewN k := by
  have T := fun i => left_any (g + 1) F B n _ _ (w.drewN i) h.at_ hn hB
  have c2 := h.at_.c2
  clear h
  generalize 8 * n - F - B = L at T
  go_enter Try.func19, Try.ntmps19
  go_wp2
  go_quiet ((go_at_call 53; exact Calls.quiet_of (T _)))
  go_wp2
  go_ret
  exact ⟨rfl, _, rfl⟩
set_option maxHeartbeats 400000 in
theorem pleft_nil (w : World) :
    Calls Try.prog 19 #[.pointer none] w fun e w' => e = .returned (.int .i64 0) ∧ w' = w := by
  go_enter Try.func19, Try.ntmps19
  go_wp2
  go_ret
  exact ⟨rfl, rfl⟩

theorem PadAt.reads {W : World} {g n F B : Nat} {O : Nat → Bool} (h : PadAt W g n F B O) : ReadsInt W .u8 (some ⟨g, 0, none⟩) n (bytesL O n) := by
  obtain ⟨A, c, e, hr⟩ := own_reads h.own
  simp only [Value.slice.injEq] at e
  obtain ⟨rfl, -, -⟩ := e
  exact hr
set_option maxRecDepth 100000 in
set_option maxHeartbeats 400000 in
theorem pbytes_any (g n F B : Nat) (O : Nat → Bool) (w : World) (h : PadAt w g n F B O) (hn : n ≤ 100000) :
    Calls Try.prog 21 #[.pointer (some ⟨g + 1, 0, none⟩)] w (Row8 (bytesL O n) w) := by
  have T := clone_any (some ⟨g, 0, none⟩) n n (bytesL O n) w (by rw [bytesL_length]; omega) h.reads
  have c2 := h.at_.c2
  clear h
  go_enter Try.func21, Try.ntmps21
  go_wp2_with fail
  refine T.mono ?_
  rintro e w1 ⟨v, rfl, hown, hb⟩
  go_wp2
  go_ret
  exact ⟨v, rfl, hown, hb⟩
set_option maxHeartbeats 400000 in
theorem pbytes_nil (w : World) :
    Calls Try.prog 21 #[.pointer none] w fun e w' => e = .returned (.slice none 0 0) ∧ w' = w := by
  go_enter Try.func21, Try.ntmps21
  go_wp2
  go_ret
  exact ⟨rfl, rfl⟩
set_option maxHeartbeats 400000 in
theorem front_nil (v k : Int) (w : World) :
    Calls Try.prog 17 #[.pointer none, .int .u32 v, .int .i64 k] w fun e w' => e = .returned (.int .i64 3) ∧ w' = w := by
  go_enter Try.func17, Try.ntmps17
  go_wp2_with fail
  refine (write_nil v k _).mono ?_
  rintro e w1 ⟨rfl, rfl⟩
  go_wp2
  go_ret
  exact ⟨rfl, rfl⟩
set_option maxHeartbeats 400000 in
theorem back_nil (v k : Int) (w : World) :
    Calls Try.prog 16 #[.pointer none, .int .u32 v, .int .i64 k] w fun e w' => e = .returned (.int .i64 3) ∧ w' = w := by
  go_enter Try.func16, Try.ntmps16
  go_wp2_with fail
  refine (write_nil v k _).mono ?_
  rintro e w1 ⟨rfl, rfl⟩
  go_wp2
  go_ret
  exact ⟨rfl, rfl⟩

theorem add_block (a : Addr) (j : Nat) : (a.add j).block = a.block := by unfold Addr.add; split <;> rfl
/-- an eye on n bytes in block b -/
structure EyeAt (W : World) (b n F B : Nat) (O : Nat → Bool) (A : Option Addr) (c : Nat) : Prop where
  at_ : EndsAt W b F B (.slice A n c) 114
  rd : ReadsInt W .u8 A n (bytesL O n)
  ne : ∀ ad, A = some ad → ad.block ≠ b
section
variable {W : World} {b n F B : Nat} {O : Nat → Bool} {A : Option Addr} {c : Nat}
theorem EyeAt.drew (h : EyeAt W b n F B O A c) (k : Nat) : EyeAt (W.drewN k) b n F B O A c := ⟨h.at_, h.rd, h.ne⟩
theorem EyeAt.drew1 (h : EyeAt W b n F B O A c) : EyeAt W.drew b n F B O A c := ⟨h.at_, h.rd, h.ne⟩
theorem EyeAt.rset (h : EyeAt W b n F B O A c) (o : Nat) (v : Value) : ReadsInt (W.setCell ⟨b, o, none⟩ v) .u8 A n (bytesL O n) := by
  refine ⟨h.rd.1, h.rd.2.1, fun h0 => ?_⟩
  obtain ⟨ad, e, hc⟩ := h.rd.2.2 h0
  refine ⟨ad, e, fun j hj => ?_⟩
  rw [← hc j hj]
  exact World.cell?_of_block (RowKit.Below.heap_setCell W ⟨b, o, none⟩ v _ (by rw [add_block]; exact h.ne ad e))
theorem EyeAt.s0 (h : EyeAt W b n F B O A c) (x : Nat) : EyeAt (W.setCell ⟨b, 0, none⟩ (.int .i64 x)) b n x B O A c := ⟨h.at_.s0 x, h.rset _ _, h.ne⟩
theorem EyeAt.s1 (h : EyeAt W b n F B O A c) (x : Nat) : EyeAt (W.setCell ⟨b, 1, none⟩ (.int .i64 x)) b n F x O A c := ⟨h.at_.s1 x, h.rset _ _, h.ne⟩
theorem EyeAt.byte (h : EyeAt W b n F B O A c) (q : Nat) (hq : q < n) : ∃ ad, A = some ad ∧ W.cell? (ad.add q) = some (.int .u8 (byteN O q)) := by
  obtain ⟨ad, e, hc⟩ := h.rd.2.2 (by omega)
  refine ⟨ad, e, ?_⟩
  rw [hc q hq, bytesL_at _ _ _ hq]
end
end Go.Proofs.Ytcjnfdhdcoobgaa.Bit
