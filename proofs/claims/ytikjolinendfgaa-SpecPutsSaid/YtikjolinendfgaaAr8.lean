/- A finder in memory; the walks of the package arith: bit, step of a finder. -/
import Derived.Test.YtikjolinendfgaaAr5
import Derived.Test.YtikjolinendfgaaArE
set_option linter.unusedVariables false
set_option linter.unusedSimpArgs false
namespace Go.Proofs.Ytikjolinendfgaa.Ari
open Go.RowKit Go.Proofs.YtikjolinendfgaaW.PrintWords Go.Proofs.YtikjolinendfgaaW.PrintLast Go.Proofs.YtikjolinendfgaaW.PrintMore Go.Proofs.Ytikjolinendfgaa.Bit

/-- the bits that a finder at block f reads: of an eye, or of none -/
def EyeP (W : World) (f : Nat) (ep : Option Addr) (B : Nat → Nat) : Prop :=
  (ep = none ∧ ∀ i, B i = 0) ∨ ∃ b n O A c, ep = some ⟨b, 0, none⟩ ∧ EyeAt W b n 0 0 O A c ∧ b ≠ f ∧ (∀ ad, A = some ad → ad.block ≠ f) ∧ n ≤ 512 ∧ ∀ i : Nat, (B i : Int) = bitI O n i
theorem EyeP.of_blocks {W W' : World} {f : Nat} {ep : Option Addr} {B : Nat → Nat} (h : EyeP W f ep B) (hb : ∀ k, k ≠ f → W.heap[k]? ≠ none → W'.heap[k]? = W.heap[k]?) : EyeP W' f ep B := by
  rcases h with h | ⟨b, n, O, A, c, h1, h2, h3, h4, h5, h6⟩
  · exact .inl h
  · refine .inr ⟨b, n, O, A, c, h1, ⟨?_, ⟨h2.rd.1, h2.rd.2.1, fun h0 => ?_⟩, h2.ne⟩, h3, h4, h5, h6⟩
    · exact (hb b h3 (by rw [h2.at_]; simp)).trans h2.at_
    · obtain ⟨ad, e, hc⟩ := h2.rd.2.2 h0
      refine ⟨ad, e, fun j hj => ?_⟩
      have h7 := hc j hj
      rw [← h7]
      refine World.cell?_of_block (hb _ (by rw [Bit.add_block]; exact h4 ad e) (fun e0 => ?_))
      unfold World.cell? at h7
      rw [e0] at h7
      simp at h7
theorem EyeP.drewN {W : World} {f : Nat} {ep : Option Addr} {B : Nat → Nat} (h : EyeP W f ep B) (k : Nat) : EyeP (W.drewN k) f ep B := h.of_blocks fun _ _ _ => rfl
theorem EyeP.drew {W : World} {f : Nat} {ep : Option Addr} {B : Nat → Nat} (h : EyeP W f ep B) : EyeP W.drew f ep B := h.of_blocks fun _ _ _ => rfl
theorem EyeP.set {W : World} {f : Nat} {ep : Option Addr} {B : Nat → Nat} (h : EyeP W f ep B) (o : Nat) (u : Value) : EyeP (W.setCell ⟨f, o, none⟩ u) f ep B := h.of_blocks fun k hk _ => RowKit.Below.heap_setCell W ⟨f, o, none⟩ u k (fun e => hk e)
theorem EyeP.le {W : World} {f : Nat} {ep : Option Addr} {B : Nat → Nat} (h : EyeP W f ep B) (i : Nat) : B i ≤ 1 := by
  rcases h with h | ⟨b, n, O, A, c, h1, h2, h3, h4, h5, h6⟩
  · rw [h.2]; decide
  · have h7 := h6 i
    unfold bitI at h7
    split at h7
    · have := toNat_le (O (i : Int).toNat); omega
    · omega
theorem EyeP.bit {W : World} {f : Nat} {ep : Option Addr} {B : Nat → Nat} (h : EyeP W f ep B) (x : Int) (i : Nat) (hx : x = i) (hi : i < 1000000000) :
    Calls Try.prog 64 #[.pointer ep, .int .i64 x] W fun e W' => e = .returned (.int .i64 (B i)) ∧ ∃ k, W' = W.drewN k := by
  subst hx
  rcases h with h | ⟨b, n, O, A, c, h1, h2, h3, h4, h5, h6⟩
  · rw [h.1, h.2]
    exact (bit_nil i W).mono fun e w' ⟨h1, h2⟩ => ⟨h1, 0, h2⟩
  · rw [h1, h6]
    exact bit_any b n 0 0 O A c i W h2 (by omega) (by omega)
/-- a finder at block f -/
def FnAt (W : World) (f : Nat) (lo hi : Int) (ep : Option Addr) (fr rd va : Nat) : Prop := W.heap[f]? = some (.cells #[.int .i64 lo, .int .i64 hi, .pointer ep, .int .i64 fr, .int .i64 rd, .int .i64 va] 83 (0, 0))
/-- the call may change block b alone -/
def OnlyB (b : Nat) (w w' : World) : Prop := w.grownBy w' (some b)
theorem OnlyB.refl (b : Nat) (w : World) : OnlyB b w w := World.grownBy.refl w _
theorem OnlyB.set {b : Nat} {w w' : World} (h : OnlyB b w w') (o : Nat) (v : Value) : OnlyB b w (w'.setCell ⟨b, o, none⟩ v) :=
  ⟨h.os, h.tape, h.output, by simpa using h.size, fun k hk hne => (RowKit.Below.heap_setCell w' ⟨b, o, none⟩ v k (fun e => hne (by rw [e]))).trans (h.block k hk hne)⟩
theorem OnlyB.drewN {b : Nat} {w w' : World} (h : OnlyB b w w') (n : Nat) : OnlyB b w (w'.drewN n) := ⟨h.os, h.tape, h.output, h.size, h.block⟩
theorem OnlyB.drew {b : Nat} {w w' : World} (h : OnlyB b w w') : OnlyB b w w'.drew := ⟨h.os, h.tape, h.output, h.size, h.block⟩
theorem OnlyB.trans {b : Nat} {w w1 w2 : World} (h : OnlyB b w w1) (k : OnlyB b w1 w2) : OnlyB b w w2 :=
  ⟨k.os.trans h.os, k.tape.trans h.tape, k.output.trans h.output, Nat.le_trans h.size k.size, fun i hi hne => (k.block i (Nat.lt_of_lt_of_le hi h.size) hne).trans (h.block i hi hne)⟩
/-- a finder and what it reads -/
structure Fn (f : Nat) (ep : Option Addr) (fr : Nat) (B : Nat → Nat) (w0 : World) (lo hi : Int) (rd va : Nat) (W : World) : Prop where
  at_ : FnAt W f lo hi ep fr rd va
  eye : EyeP W f ep B
  only : OnlyB f w0 W
section
variable {f : Nat} {ep : Option Addr} {fr : Nat} {B : Nat → Nat} {w0 : World} {lo hi : Int} {rd va : Nat} {W : World}
theorem Fn.drewN (h : Fn f ep fr B w0 lo hi rd va W) (k : Nat) : Fn f ep fr B w0 lo hi rd va (W.drewN k) := ⟨h.at_, h.eye.drewN k, h.only.drewN k⟩
theorem Fn.drew (h : Fn f ep fr B w0 lo hi rd va W) : Fn f ep fr B w0 lo hi rd va W.drew := ⟨h.at_, h.eye.drew, h.only.drew⟩
theorem Fn.s0 (h : Fn f ep fr B w0 lo hi rd va W) (x : Int) : Fn f ep fr B w0 x hi rd va (W.setCell ⟨f, 0, none⟩ (.int .i64 x)) := ⟨(blk_set h.at_ 0 _).trans rfl, h.eye.set 0 _, h.only.set 0 _⟩
theorem Fn.s1 (h : Fn f ep fr B w0 lo hi rd va W) (x : Int) : Fn f ep fr B w0 lo x rd va (W.setCell ⟨f, 1, none⟩ (.int .i64 x)) := ⟨(blk_set h.at_ 1 _).trans rfl, h.eye.set 1 _, h.only.set 1 _⟩
theorem Fn.s4 (h : Fn f ep fr B w0 lo hi rd va W) (x : Nat) : Fn f ep fr B w0 lo hi x va (W.setCell ⟨f, 4, none⟩ (.int .i64 (x : Int))) := ⟨(blk_set h.at_ 4 _).trans rfl, h.eye.set 4 _, h.only.set 4 _⟩
theorem Fn.s5 (h : Fn f ep fr B w0 lo hi rd va W) (x : Nat) : Fn f ep fr B w0 lo hi rd x (W.setCell ⟨f, 5, none⟩ (.int .i64 (x : Int))) := ⟨(blk_set h.at_ 5 _).trans rfl, h.eye.set 5 _, h.only.set 5 _⟩
theorem Fn.span (h : Fn f ep fr B w0 lo hi rd va W) (l wd : Nat) (h1 : lo = l) (h2 : hi = (l : Int) + wd - 1) : SpanAt W f l wd := ⟨by rw [← h1]; exact (blk_cell h.at_ 0).trans rfl, by rw [← h2]; exact (blk_cell h.at_ 1).trans rfl, blk_frozen h.at_ 0, blk_frozen h.at_ 1⟩
end
set_option maxRecDepth 100000 in
set_option maxHeartbeats 1000000 in
theorem fbit_any (f : Nat) (ep : Option Addr) (fr : Nat) (B : Nat → Nat) (w0 : World) (lo hi : Int) (rd va : Nat) (w : World) (h : Fn f ep fr B w0 lo hi rd va w) (h1 : fr ≤ 100000000) (h2 : rd ≤ 100000000) :
    Calls Try.prog 49 #[.pointer (some ⟨f, 0, none⟩)] w fun e w' => e = .returned (.int .i64 (B (fr + rd))) ∧ Fn f ep fr B w0 lo hi (rd + 1) va w' := by
  have c2 : w.cell? ⟨f, 2, none⟩ = some (.pointer ep) := (blk_cell h.at_ 2).trans rfl
  have c3 : w.cell? ⟨f, 3, none⟩ = some (.int .i64 fr) := (blk_cell h.at_ 3).trans rfl
  have c4 : w.cell? ⟨f, 4, none⟩ = some (.int .i64 rd) := (blk_cell h.at_ 4).trans rfl
  have f4 : w.frozen? ⟨f, 4, none⟩ = false := blk_frozen h.at_ 4
  have T := Lib.hid (fun i => (h.eye.drewN i).bit ((fr : Int) + (rd : Int)) (fr + rd) (by omega) (by omega))
  have HF : Hid (∀ k, Fn f ep fr B w0 lo hi (rd + 1) va ((w.drewN k).setCell ⟨f, 4, none⟩ (.int .i64 ((rd : Int) + 1)))) := fun k => (h.drewN k).s4 (rd + 1)
  clear h
  go_enter Try.func49, Try.ntmps49
  go_wp2
  go_quiet ((go_at_call 64; exact Calls.quiet_of (T.out _)))
  go_wp2
  go_ret
  exact ⟨rfl, HF.out _⟩
set_option maxRecDepth 100000 in
set_option maxHeartbeats 1000000 in
theorem fstep_any (f : Nat) (ep : Option Addr) (fr : Nat) (B : Nat → Nat) (w0 : World) (lo hi : Int) (rd va : Nat) (x : Int) (off : Nat) (hx : x = off) (hv : off ≤ va) (hv2 : va < 65536) (w : World) (h : Fn f ep fr B w0 lo hi rd va w) (h1 : fr ≤ 100000000) (h2 : rd ≤ 100000000) :
    Calls Try.prog 52 #[.pointer (some ⟨f, 0, none⟩), .int .i64 x] w fun e w' => e = .returned (.tuple #[]) ∧ Fn f ep fr B w0 lo hi (rd + 1) (2 * (va - off) + B (fr + rd)) w' := by
  subst hx
  have c5 : w.cell? ⟨f, 5, none⟩ = some (.int .i64 va) := (blk_cell h.at_ 5).trans rfl
  have T := Lib.hid (fbit_any f ep fr B w0 lo hi rd va w.drew h.drew h1 h2)
  have hb := h.eye.le (fr + rd)
  generalize B (fr + rd) = bb at T hb
  have HE : Hid (IntKind.i64.wrap (IntKind.i64.wrap (2 * IntKind.i64.wrap ((va : Int) - (off : Int))) + (bb : Int)) = ((2 * (va - off) + bb : Nat) : Int)) := by
    show _ = _
    rw [IntWalk.i64_in ((va : Int) - (off : Int)) (by omega), IntWalk.i64_in (2 * ((va : Int) - (off : Int))) (by omega), IntWalk.i64_in _ (by omega)]
    omega
  clear h
  go_enter Try.func52, Try.ntmps52
  go_wp2
  go_region_with (first
      | (go_at_call 49; refine T.out.mono ?_; rintro e w3 ⟨rfl, h3⟩; have c5' : w3.cell? ⟨f, 5, none⟩ = some (.int .i64 va) := (blk_cell h3.at_ 5).trans rfl; have f5 : w3.frozen? ⟨f, 5, none⟩ = false := blk_frozen h3.at_ 5)
      | fail)
  all_goals
    go_end0
    refine ⟨rfl, ?_⟩
    rw [HE.out]
    exact h3.s5 _
/-- what the first bits are, as a number -/
def vN (B : Nat → Nat) (fr : Nat) : Nat → Nat
  | 0 => 0
  | i + 1 => 2 * vN B fr i + B (fr + i)
theorem vN_lt {B : Nat → Nat} {fr : Nat} (h : ∀ i, B i ≤ 1) : ∀ i, vN B fr i < 2 ^ i
  | 0 => Nat.one_pos
  | i + 1 => by
    have h1 := vN_lt (fr := fr) h i
    have h2 := h (fr + i)
    show 2 * vN B fr i + B (fr + i) < 2 ^ (i + 1)
    rw [Nat.pow_succ]
    omega
set_option maxRecDepth 100000 in
set_option maxHeartbeats 2000000 in
theorem newFinder_any (ep : Option Addr) (B : Nat → Nat) (x : Int) (fr : Nat) (hx : x = fr) (h4 : fr ≤ 4096) (w : World) (he : EyeP w w.heap.size ep B) :
    Calls Try.prog 25 #[.pointer ep, .int .i64 x] w fun e w' => e = .returned (.pointer (some ⟨w.heap.size, 0, none⟩)) ∧ Fn w.heap.size ep fr B w 0 65535 16 (vN B fr 16) w' ∧ w.heap.size < w'.heap.size := by
  subst hx
  have hle := he.le
  have HF0 : Hid (∀ o, o = Obj.cells #[.int .i64 0, .int .i64 65535, .pointer ep, .int .i64 fr, .int .i64 0, .int .i64 0] 83 → Fn w.heap.size ep fr B w 0 65535 0 0 (w.alloc o)) := fun o ho => ⟨by unfold FnAt; rw [heap_alloc_new, ho]; rfl, he.of_blocks fun k hk h0 => (ba (br w) o).block _ (by rcases Nat.lt_or_ge k w.heap.size with h | h; exact h; exact absurd (Array.getElem?_eq_none h) h0), World.grownBy_alloc w _ _⟩
  have HLT := Lib.hid (vN_lt (fr := fr) hle)
  clear he
  go_enter Try.func25, Try.ntmps25
  go_wp2
  go_loopg [14] 16 (fun gk x W => ∃ (i : Nat), i ≤ 16 ∧ gk = 16 - i ∧ x = .int .i64 i ∧ Hid (Fn w.heap.size ep fr B w 0 65535 i (vN B fr i) W) ∧ Hid (w.heap.size < W.heap.size))
  case atStart =>
    exact ⟨0, by omega, rfl, rfl, HF0.out _ rfl, by show _ < _; simp⟩
  case round =>
    obtain ⟨i, hi, rfl, rfl, HF, HZ⟩ := hrel
    have c5 : wr.cell? ⟨w.heap.size, 5, none⟩ = some (.int .i64 (vN B fr i)) := (blk_cell HF.out.at_ 5).trans rfl
    by_cases hlt : i < 16
    · have hb := HF.out.eye.le (fr + i)
      have hp : 2 ^ i ≤ 2 ^ 16 := Nat.pow_le_pow_right (show 0 < 2 by decide) (show i ≤ 16 by omega)
      have hv : vN B fr i < 65536 := Nat.lt_of_lt_of_le (HLT.out i) hp
      have T := Lib.hid (fbit_any w.heap.size ep fr B w 0 65535 i (vN B fr i) wr.drew HF.out.drew (by omega) (by omega))
      have HS : Hid (vN B fr (i + 1) = 2 * vN B fr i + B (fr + i)) := rfl
      generalize B (fr + i) = bb at T hb HS
      generalize vN B fr i = va at T hv HS c5
      go_wp2
      go_region_with (first
          | (go_at_call 49; refine T.out.mono ?_; rintro e w3 ⟨rfl, h3⟩; have hs3 : w.heap.size < w3.heap.size := blk_lt h3.at_; have c5' : w3.cell? ⟨w.heap.size, 5, none⟩ = some (.int .i64 va) := (blk_cell h3.at_ 5).trans rfl; have f5 : w3.frozen? ⟨w.heap.size, 5, none⟩ = false := blk_frozen h3.at_ 5)
          | fail)
      all_goals
        go_wp2
        go_roundg (16 - (i + 1))
        case measure => omega
        case rel =>
          refine ⟨i + 1, by omega, rfl, by go_num, ?_, by show _ < _; simpa using hs3⟩
          rw [HS.out, show 2 * (va : Int) + (bb : Int) = ((2 * va + bb : Nat) : Int) from by omega]
          exact h3.s5 _
    · obtain rfl : i = 16 := by omega
      go_wp2
      go_ret
      exact ⟨rfl, HF.out, HZ.out⟩
end Go.Proofs.Ytikjolinendfgaa.Ari
