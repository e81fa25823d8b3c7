/- Words for the walks of the statements on pads and eyes. -/
import Derived.Test.YtcjnfdhdcoobgaaBits5
set_option linter.unusedVariables false
set_option linter.unusedSimpArgs false
namespace Go.Proofs.Ytcjnfdhdcoobgaa.Bit
open Go.RowKit Go.Proofs.YtcjnfdhdcoobgaaW.PrintWords Go.Proofs.YtcjnfdhdcoobgaaW.PrintLast Go.Proofs.YtcjnfdhdcoobgaaW.PrintMore Go.Proofs.Ytcjnfdhdcoobgaa.Byt

/-- the steps of a script: from the back?, a number, how many bits -/
abbrev ActV := Bool × Nat × Int
def ActsAt (W : World) (A : Option Addr) (acts : List ActV) : Prop := ∀ i (h : i < acts.length), acts[i].2.1 < 4294967296 ∧ ∃ ad, A = some ad ∧ W.cell? (ad.add (i * 3)) = some (.bool acts[i].1) ∧
  W.cell? ⟨(ad.add (i * 3)).block, (ad.add (i * 3)).off + 1, none⟩ = some (.int .u32 acts[i].2.1) ∧ W.cell? ⟨(ad.add (i * 3)).block, (ad.add (i * 3)).off + 2, none⟩ = some (.int .i64 acts[i].2.2)

/-- both pads, side by side: n bytes, the free bits are 0 -/
structure Both (g B0 m n : Nat) (W : World) (F B : Nat) (O : Nat → Bool) (u : Value) : Prop where
  p : PadAt W g n F B O
  r : RefAt W B0 m (8 * n) F B O u
  lt : g + 1 < B0
  sum : F + B ≤ 8 * n
  free : ∀ i, F ≤ i → i + B < 8 * n → O i = false
theorem Both.drew {g B0 m n : Nat} {W : World} {F B : Nat} {O : Nat → Bool} {u : Value} (h : Both g B0 m n W F B O u) (k : Nat) : Both g B0 m n (W.drewN k) F B O u := ⟨h.p.drew k, h.r.drew k, h.lt, h.sum, h.free⟩
/-- the document's pad behind a call on the program's -/
theorem RefAt.two {W W' : World} {B0 m N F B g : Nat} {O : Nat → Bool} {u : Value} (h : RefAt W B0 m N F B O u) (k : Two g W W') (hlt : g + 1 < B0) : RefAt W' B0 m N F B O u :=
  ⟨(k.far m (by have := h.le; omega) (blk_lt h.at_)).trans h.at_, own_move h.own fun b hb => k.far b (by have := own_base h.own b hb; omega) (own_lt h.own b hb), h.le⟩
/-- the program's pad behind a call on the document's -/
theorem PadAt.ref {W W' : World} {g n F B B0 : Nat} {O : Nat → Bool} (h : PadAt W g n F B O) (k : Below B0 W W') (hlt : g + 1 < B0) : PadAt W' g n F B O :=
  ⟨(k.block _ hlt).trans h.at_, own_move h.own fun b hb => k.block b (by simp only [Value.ownBlock, Option.some.injEq] at hb; omega)⟩

theorem PadAt.below {W W' : World} {g n F B : Nat} {O : Nat → Bool} (h : PadAt W g n F B O) (k : Below W.heap.size W W') : PadAt W' g n F B O := ⟨(k.block _ (blk_lt h.at_)).trans h.at_, pw_own_below h.own k⟩
theorem RefAt.below {W W' : World} {B0 m N F B : Nat} {O : Nat → Bool} {u : Value} (h : RefAt W B0 m N F B O u) (k : Below W.heap.size W W') : RefAt W' B0 m N F B O u := ⟨(k.block _ (blk_lt h.at_)).trans h.at_, pw_own_below h.own k, h.le⟩

/-- what the document's Put answers at a pad, and how the pad is then -/
def PutC (B0 m n F B : Nat) (O : Nat → Bool) (u : Value) (v : Nat) (k : Int) (fr : Bool) (err : Int) (F' B' : Nat) (O' : Nat → Bool) : Prop :=
  ∀ W : World, RefAt W B0 m (8 * n) F B O u → Calls Try.prog 18 #[.pointer (some ⟨m, 0, none⟩), .int .u32 v, .int .i64 k, .bool fr] W
    fun e w' => e = .returned (.int .i64 err) ∧ RefAt w' B0 m (8 * n) F' B' O' u ∧ RB B0 m u W w'
theorem putC_no {B0 m n F B : Nat} {O : Nat → Bool} {u : Value} {v : Nat} {k : Int} {fr : Bool} (hv : v < 2 ^ 32) (hn : n ≤ 100000) (hB : F + B ≤ 8 * n) (he : putE (8 * n - F - B) v k ≠ 0) :
    PutC B0 m n F B O u v k fr (putE (8 * n - F - B) v k) F B O := fun W h =>
  (rput_no B0 m (8 * n) F B O u v k fr W h hv (by omega) hB he).mono fun e w' ⟨h1, k1, h2⟩ => ⟨h1, by rw [h2]; exact h.drew k1, by rw [h2]; exact (RB.refl _ _ _ _).drew k1⟩
theorem putC_front {B0 m n F B : Nat} {O : Nat → Bool} {u : Value} {v k : Nat} (hv : v < 2 ^ 32) (hn : n ≤ 100000) (hB : F + B ≤ 8 * n) (he : putE (8 * n - F - B) v k = 0) :
    PutC B0 m n F B O u v k true 0 (F + k) B (putF O F k k v) := fun W h => rput_front B0 m (8 * n) F B O u v k W h hv (by omega) hB he
theorem putC_back {B0 m n F B : Nat} {O : Nat → Bool} {u : Value} {v k : Nat} (hv : v < 2 ^ 32) (hn : n ≤ 100000) (hB : F + B ≤ 8 * n) (he : putE (8 * n - F - B) v k = 0) :
    PutC B0 m n F B O u v k false 0 F (B + k) (putB O (8 * n) B k v) := fun W h => rput_back B0 m n (8 * n) F B O u v k W rfl h hv (by omega) hB he

theorem blow {B0 B : Nat} {w W W' : World} (h : Below B0 W W') (k : Below B w W) (hb : B ≤ B0) : Below B w W' := k.trans (h.mono hb)
theorem Box.cells {W : World} {g : Nat} {t : TypeId} {a b c : Value} (h : W.heap[g]? = some (.cells #[a, b, c] t (0, 0))) : W.cell? ⟨g, 0, none⟩ = some a ∧ W.cell? ⟨g, 1, none⟩ = some b ∧ W.cell? ⟨g, 2, none⟩ = some c :=
  ⟨(blk_cell h 0).trans rfl, (blk_cell h 1).trans rfl, (blk_cell h 2).trans rfl⟩
end Go.Proofs.Ytcjnfdhdcoobgaa.Bit
