/- The walks of the document's pad (psalteryref05.Pad): bits in a slice of numbers, how many were taken from either end. -/
import Derived.Test.YtcjnfdhdcoobgaaBits4
set_option linter.unusedVariables false
set_option linter.unusedSimpArgs false
namespace Go.Proofs.Ytcjnfdhdcoobgaa.Bit
open Go.RowKit Go.Proofs.YtcjnfdhdcoobgaaW.PrintWords Go.Proofs.YtcjnfdhdcoobgaaW.PrintLast Go.Proofs.YtcjnfdhdcoobgaaW.PrintMore Go.Proofs.Ytcjnfdhdcoobgaa.Byt

/-- bits as numbers -/
def bitsL (O : Nat → Bool) (N : Nat) : List Int := (List.range N).map fun i => ((O i).toNat : Int)
theorem bitsL_length (O : Nat → Bool) (N : Nat) : (bitsL O N).length = N := by simp [bitsL]
theorem bitsL_at (O : Nat → Bool) (N i : Nat) (h : i < N) : (bitsL O N).getD i 0 = ((O i).toNat : Int) := by
  rw [List.getD_eq_getElem?_getD, bitsL, List.getElem?_map, List.getElem?_range h]; rfl
theorem bitsL_set (O : Nat → Bool) (N p : Nat) (x : Bool) : (bitsL O N).set p (x.toNat : Int) = bitsL (setb O p x) N := by
  apply List.ext_getElem
  · simp [bitsL]
  · intro j h1 h2
    rw [List.getElem_set]
    simp only [bitsL, List.getElem_map, List.getElem_range, setb]
    by_cases e : p = j
    · rw [if_pos e, if_pos e.symm]
    · rw [if_neg e, if_neg (fun h => e h.symm)]
theorem bitsL_zero (N : Nat) : bitsL (fun _ => false) N = List.replicate N 0 := by
  apply List.ext_getElem
  · simp [bitsL]
  · intro i h1 h2; simp [bitsL]
theorem bitsL_snoc (O : Nat → Bool) (N : Nat) : bitsL O (N + 1) = bitsL O N ++ [((O N).toNat : Int)] := by
  unfold bitsL; rw [List.range_succ, List.map_append]; rfl

/-- the document's pad, in block m, its bits at or above B0 -/
structure RefAt (W : World) (B0 m N F B : Nat) (O : Nat → Bool) (v : Value) : Prop where
  at_ : W.heap[m]? = some (.cells #[v, .int .i64 F, .int .i64 B] 85 (0, 0))
  own : W.ownsRow B0 3 1 v N (nums .i64 (bitsL O N))
  le : B0 ≤ m
section
variable {W : World} {B0 m N F B : Nat} {O : Nat → Bool} {v : Value}
theorem RefAt.c0 (h : RefAt W B0 m N F B O v) : W.cell? ⟨m, 0, none⟩ = some v := (blk_cell h.at_ 0).trans rfl
theorem RefAt.c1 (h : RefAt W B0 m N F B O v) : W.cell? ⟨m, 1, none⟩ = some (.int .i64 F) := (blk_cell h.at_ 1).trans rfl
theorem RefAt.c2 (h : RefAt W B0 m N F B O v) : W.cell? ⟨m, 2, none⟩ = some (.int .i64 B) := (blk_cell h.at_ 2).trans rfl
theorem RefAt.free (h : RefAt W B0 m N F B O v) (o : Nat) : W.frozen? ⟨m, o, none⟩ = false := blk_frozen h.at_ o
theorem RefAt.ne (h : RefAt W B0 m N F B O v) : some m ≠ v.ownBlock := own_ne h.own h.at_ (by decide)
theorem RefAt.drew (h : RefAt W B0 m N F B O v) (k : Nat) : RefAt (W.drewN k) B0 m N F B O v := ⟨h.at_, own_move h.own fun _ _ => rfl, h.le⟩
theorem RefAt.drew1 (h : RefAt W B0 m N F B O v) : RefAt W.drew B0 m N F B O v := ⟨h.at_, own_move h.own fun _ _ => rfl, h.le⟩
theorem RefAt.s1 (h : RefAt W B0 m N F B O v) (x : Nat) : RefAt (W.setCell ⟨m, 1, none⟩ (.int .i64 x)) B0 m N x B O v := ⟨(blk_set h.at_ _ _).trans rfl, own_setCell h.own h.ne _, h.le⟩
theorem RefAt.s2 (h : RefAt W B0 m N F B O v) (x : Nat) : RefAt (W.setCell ⟨m, 2, none⟩ (.int .i64 x)) B0 m N F x O v := ⟨(blk_set h.at_ _ _).trans rfl, own_setCell h.own h.ne _, h.le⟩
theorem RefAt.form (h : RefAt W B0 m N F B O v) (hN : 0 < N) : ∃ g cap, v = .slice (some ⟨g, 0, none⟩) N cap ∧ N ≤ cap ∧ B0 ≤ g ∧ m ≠ g := by
  have hne := h.ne
  rcases h.own.2 with ⟨-, h2⟩ | ⟨g, cap, cur, rfl, hg, -, hc, -⟩
  · omega
  · exact ⟨g, cap, rfl, hc, hg, fun e => hne (by rw [e]; rfl)⟩
theorem RefAt.bit {g cap : Nat} (h : RefAt W B0 m N F B O (.slice (some ⟨g, 0, none⟩) N cap)) (p : Nat) (hp : p < N) : W.cell? ⟨g, p, none⟩ = some (.int .i64 ((O p).toNat : Int)) ∧ W.frozen? ⟨g, p, none⟩ = false := by
  obtain ⟨h1, h2⟩ := own_at h.own (p : Int) (by omega) (by omega)
  unfold rd at h1
  rw [Int.toNat_natCast, bitsL_at _ _ _ hp] at h1
  rw [Int.toNat_natCast] at h2
  exact ⟨h1, h2⟩
theorem RefAt.put {g cap : Nat} (h : RefAt W B0 m N F B O (.slice (some ⟨g, 0, none⟩) N cap)) (p : Nat) (x : Bool) : RefAt (W.setCell ⟨g, p, none⟩ (.int .i64 (x.toNat : Int))) B0 m N F B (setb O p x) (.slice (some ⟨g, 0, none⟩) N cap) := by
  refine ⟨blk_far h.at_ (fun e => h.ne (by rw [e]; rfl)) _, ?_, h.le⟩
  have := (own_store h.own (p : Int) (x.toNat : Int)).1
  rw [Int.toNat_natCast, bitsL_set] at this
  exact this
end

/-- the call may change block m and the block of u, and nothing else -/
structure RB (B0 m : Nat) (u : Value) (w w' : World) : Prop where
  below : Below B0 w w'
  keep : KeepBut w w' m u.ownBlock
theorem RB.refl (B0 m : Nat) (u : Value) (w : World) : RB B0 m u w w := ⟨Below.refl _ _, KeepBut.refl _ _ _⟩
theorem RB.drew {B0 m : Nat} {u : Value} {w w' : World} (h : RB B0 m u w w') (k : Nat) : RB B0 m u w (w'.drewN k) := ⟨pw_below_drewN h.below k, h.keep⟩
theorem RB.drew1 {B0 m : Nat} {u : Value} {w w' : World} (h : RB B0 m u w w') : RB B0 m u w w'.drew := ⟨below_drew h.below, h.keep⟩
theorem RB.setm {B0 m : Nat} {u : Value} {w w' : World} (h : RB B0 m u w w') (hm : B0 ≤ m) (o : Nat) (v : Value) : RB B0 m u w (w'.setCell ⟨m, o, none⟩ v) := ⟨h.below.setCell (p := ⟨m, o, none⟩) hm v, h.keep.set_ o v⟩
theorem RB.setg {B0 m g : Nat} {u : Value} {w w' : World} (h : RB B0 m u w w') (hg : B0 ≤ g) (hu : u.ownBlock = some g) (o : Nat) (v : Value) : RB B0 m u w (w'.setCell ⟨g, o, none⟩ v) :=
  ⟨h.below.setCell (p := ⟨g, o, none⟩) hg v, by simpa using h.keep.1, fun i h1 h2 h3 => (RowKit.Below.heap_setCell w' ⟨g, o, none⟩ v i (fun e => h3 (by rw [hu, e]))).trans (h.keep.2 i h1 h2 h3)⟩

theorem infoI : (Try.prog.info? 3).map (fun i => (i.zero, i.size, i.bytes)) = some (some (.int .i64 0), 1, 8) := by kernel_rfl

set_option maxRecDepth 100000 in
set_option maxHeartbeats 400000 in
theorem rnew_yes (n : Nat) (hn : n ≤ 512) (w : World) :
    Calls Try.prog 15 #[.int .i64 n] w fun e w' => ∃ v, e = .returned (.tuple #[.pointer (some ⟨w.heap.size + 1, 0, none⟩), .int .i64 0]) ∧ RefAt w' w.heap.size (w.heap.size + 1) (8 * n) 0 0 (fun _ => false) v ∧ Below w.heap.size w w' := by
  have hmk := print_make (P := Try.prog) 81 3 .i64 8 Try.underlying81 infoI (by decide) (8 * n) (by omega)
  have e8 : ((8 * n : Nat) : Int) = 8 * (n : Int) := by push_cast; rfl
  rw [e8] at hmk
  have E8 := Lib.hid e8
  clear e8
  go_enter Try.func15, Try.ntmps15
  go_wp2
  go_ret2
  have h0 := own_made w w.heap.size 3 .i64 (8 * n) (Nat.le_refl _) (by omega)
  refine ⟨.slice (some ⟨w.heap.size, 0, none⟩) (8 * n) (8 * n), rfl, ⟨?_, ?_, by omega⟩, ba (ba (br w) _) _⟩
  · rw [show w.heap.size + 1 = (w.alloc (.cells (madeCells #[.int .i64 0] (8 * n)) 3)).heap.size from by simp, heap_alloc_new]; rfl
  · rw [bitsL_zero]
    exact pw_own_below h0 (ba (br _) _)
set_option maxHeartbeats 400000 in
theorem rnew_no (n : Int) (h : n < 0 ∨ 512 < n) (w : World) :
    Calls Try.prog 15 #[.int .i64 n] w fun e w' => e = .returned (.tuple #[.pointer none, .int .i64 (if n < 0 then 1 else 2)]) ∧ w' = w := by
  rcases h with h | h
  · rw [if_pos h]
    go_enter Try.func15, Try.ntmps15
    go_wp2
    go_ret2
    exact ⟨rfl, rfl⟩
  · rw [if_neg (by omega)]
    go_enter Try.func15, Try.ntmps15
    go_wp2
    go_ret2
    exact ⟨rfl, rfl⟩

theorem RefAt.sl {W : World} {B0 m N F B : Nat} {O : Nat → Bool} {v : Value} (h : RefAt W B0 m N F B O v) : ∃ A c, v = .slice A N c := own_slice h.own

set_option maxRecDepth 100000 in
set_option maxHeartbeats 400000 in
theorem rleft_any (B0 m N F B : Nat) (O : Nat → Bool) (v : Value) (w : World) (h : RefAt w B0 m N F B O v) (hn : N ≤ 1000000) (hB : F + B ≤ N) :
    Calls Try.prog 20 #[.pointer (some ⟨m, 0, none⟩)] w fun e w' => e = .returned (.int .i64 ((N - F - B : Nat) : Int)) ∧ ∃ k, w' = w.drewN k := by
  obtain ⟨A, c, rfl⟩ := h.sl
  have c0 := h.c0
  have c1 := h.c1
  have c2 := h.c2
  clear h
  go_enter Try.func20, Try.ntmps20
  go_wp2
  go_quiet (fail)
  go_wp2
  go_ret
  exact ⟨ret_int (by omega), _, rfl⟩
set_option maxRecDepth 100000 in
set_option maxHeartbeats 400000 in
theorem rback_any (B0 m n F B x p : Nat) (O : Nat → Bool) (v : Value) (w : World) (h : RefAt w B0 m (8 * n) F B O v) (hn : n ≤ 100000) (hx : x < 8 * n) (hp : p = 8 * n - 1 - x) :
    Calls Try.prog 52 #[.pointer (some ⟨m, 0, none⟩), .int .i64 x] w fun e w' => e = .returned (.int .i64 p) ∧ w' = w := by
  obtain ⟨A, c, rfl⟩ := h.sl
  have c0 := h.c0
  have HP := Lib.hid hp
  clear h hp
  go_enter Try.func52, Try.ntmps52
  go_wp2
  go_ret
  exact ⟨ret_int (by have := HP.out; omega), rfl⟩
set_option maxRecDepth 100000 in
set_option maxHeartbeats 400000 in
theorem rmay_any (B0 m N F B : Nat) (O : Nat → Bool) (v : Value) (k : Int) (w : World) (h : RefAt w B0 m N F B O v) (hn : N ≤ 1000000) (hB : F + B ≤ N) :
    Calls Try.prog 51 #[.pointer (some ⟨m, 0, none⟩), .int .i64 k] w fun e w' => e = .returned (.int .i64 (mayE (N - F - B) k)) ∧ ∃ k, w' = w.drewN k := by
  have T := rleft_any B0 m N F B O v w h hn hB
  clear h
  generalize N - F - B = L at T
  have e : mayE L k = if k < 0 ∨ 32 < k then 1 else if (L : Int) < k then 50 else 0 := rfl
  by_cases h1 : k < 0
  · rw [if_pos (.inl h1)] at e
    rw [e]
    go_enter Try.func51, Try.ntmps51
    go_wp2
    go_ret
    exact ⟨rfl, 0, rfl⟩
  · by_cases h2 : 32 < k
    · rw [if_pos (.inr h2)] at e
      rw [e]
      go_enter Try.func51, Try.ntmps51
      go_wp2
      go_ret
      exact ⟨rfl, 0, rfl⟩
    · rw [if_neg (by omega)] at e
      by_cases h3 : (L : Int) < k
      · rw [if_pos h3] at e
        rw [e]
        go_enter Try.func51, Try.ntmps51
        go_wp2_with fail
        refine T.mono ?_
        rintro e w1 ⟨rfl, k1, rfl⟩
        go_wp2
        go_ret
        exact ⟨rfl, _, rfl⟩
      · rw [if_neg h3] at e
        rw [e]
        go_enter Try.func51, Try.ntmps51
        go_wp2_with fail
        refine T.mono ?_
        rintro e w1 ⟨rfl, k1, rfl⟩
        go_wp2
        go_ret
        exact ⟨rfl, _, rfl⟩
end Go.Proofs.Ytcjnfdhdcoobgaa.Bit
