/- The walks of the package queue: each call on a queue that lies in one block. -/
import Derived.Test.YtidfahjebjaneaaMore
set_option linter.unusedVariables false
set_option linter.unusedSimpArgs false
namespace Go.Proofs.Ytidfahjebjaneaa.Que
open Go.RowKit Go.Proofs.YtidfahjebjaneaaW.PrintWords Go.Proofs.YtidfahjebjaneaaW.PrintLast Go.Proofs.YtidfahjebjaneaaW.PrintMore

/-- a queue: flush, next, and what the ring's places hold -/
structure Q where
  F : Nat
  N : Nat
  P : Nat → ByteArray
  O : Nat → Bool
def Q.cells (q : Q) : Array Value := #[.int .i64 q.F, .int .i64 q.N, .string (q.P 0), .bool (q.O 0), .string (q.P 1), .bool (q.O 1), .string (q.P 2), .bool (q.O 2), .string (q.P 3), .bool (q.O 3),
  .string (q.P 4), .bool (q.O 4), .string (q.P 5), .bool (q.O 5), .string (q.P 6), .bool (q.O 6), .string (q.P 7), .bool (q.O 7)]
def QAt (W : World) (b : Nat) (q : Q) : Prop := W.heap[b]? = some (.cells q.cells 102 (0, 0))
/-- ends of a queue -/
def Q.ok (q : Q) : Prop := 1 ≤ q.F ∧ q.F ≤ 8 ∧ q.N ≤ 1000000

theorem gset {w w' : World} {b : Nat} (h : w.grownBy w' (some b)) (o : Nat) (v : Value) : w.grownBy (w'.setCell ⟨b, o, none⟩ v) (some b) :=
  ⟨h.os, h.tape, h.output, by simpa using h.size, fun k hk hne => (RowKit.Below.heap_setCell w' ⟨b, o, none⟩ v k (fun e => hne (by rw [e]))).trans (h.block k hk hne)⟩
theorem gdrew {w w' : World} {b : Nat} (h : w.grownBy w' (some b)) (n : Nat) : w.grownBy (w'.drewN n) (some b) := ⟨h.os, h.tape, h.output, h.size, h.block⟩
theorem lt8 {j : Nat} (h : j < 8) : j = 0 ∨ j = 1 ∨ j = 2 ∨ j = 3 ∨ j = 4 ∨ j = 5 ∨ j = 6 ∨ j = 7 := by omega
theorem QAt.c0 {W : World} {b : Nat} {q : Q} (h : QAt W b q) : W.cell? ⟨b, 0, none⟩ = some (.int .i64 q.F) := (blk_cell h 0).trans rfl
theorem QAt.c1 {W : World} {b : Nat} {q : Q} (h : QAt W b q) : W.cell? ⟨b, 1, none⟩ = some (.int .i64 q.N) := (blk_cell h 1).trans rfl
theorem QAt.cp {W : World} {b : Nat} {q : Q} (h : QAt W b q) (j : Nat) (hj : j < 8) : W.cell? ⟨b, 2 + j * 2, none⟩ = some (.string (q.P j)) := by
  refine (blk_cell h _).trans ?_
  rcases lt8 hj with rfl | rfl | rfl | rfl | rfl | rfl | rfl | rfl <;> rfl
theorem QAt.co {W : World} {b : Nat} {q : Q} (h : QAt W b q) (j : Nat) (hj : j < 8) : W.cell? ⟨b, 2 + j * 2 + 1, none⟩ = some (.bool (q.O j)) := by
  refine (blk_cell h _).trans ?_
  rcases lt8 hj with rfl | rfl | rfl | rfl | rfl | rfl | rfl | rfl <;> rfl
theorem QAt.free {W : World} {b : Nat} {q : Q} (h : QAt W b q) (o : Nat) : W.frozen? ⟨b, o, none⟩ = false := blk_frozen h o
def Q.setP (q : Q) (j : Nat) (s : ByteArray) : Q := { q with P := fun i => if i = j then s else q.P i }
def Q.setO (q : Q) (j : Nat) (x : Bool) : Q := { q with O := fun i => if i = j then x else q.O i }
theorem QAt.sP {W : World} {b : Nat} {q : Q} (h : QAt W b q) (j : Nat) (hj : j < 8) (s : ByteArray) : QAt (W.setCell ⟨b, 2 + j * 2, none⟩ (.string s)) b (q.setP j s) := by
  refine (blk_set h _ _).trans ?_
  rcases lt8 hj with rfl | rfl | rfl | rfl | rfl | rfl | rfl | rfl <;> rfl
theorem QAt.sO {W : World} {b : Nat} {q : Q} (h : QAt W b q) (j : Nat) (hj : j < 8) (x : Bool) : QAt (W.setCell ⟨b, 2 + j * 2 + 1, none⟩ (.bool x)) b (q.setO j x) := by
  refine (blk_set h _ _).trans ?_
  rcases lt8 hj with rfl | rfl | rfl | rfl | rfl | rfl | rfl | rfl <;> rfl
theorem QAt.sN {W : World} {b : Nat} {q : Q} (h : QAt W b q) (n : Nat) : QAt (W.setCell ⟨b, 1, none⟩ (.int .i64 n)) b { q with N := n } := (blk_set h _ _).trans rfl
theorem QAt.drew {W : World} {b : Nat} {q : Q} (h : QAt W b q) (n : Nat) : QAt (W.drewN n) b q := h

set_option maxHeartbeats 400000 in
theorem new_yes (f : Nat) (h1 : 1 ≤ f) (h8 : f ≤ 8) (w : World) :
    Calls Try.prog 26 #[.int .i64 f] w fun e w' => e = .returned (.tuple #[.pointer (some ⟨w.heap.size, 0, none⟩), .int .i64 0]) ∧ QAt w' w.heap.size ⟨f, 0, fun _ => ⟨#[]⟩, fun _ => false⟩ ∧ Below w.heap.size w w' ∧ w'.heap.size = w.heap.size + 1 := by
  go_enter Try.func26, Try.ntmps26
  go_wp2
  go_ret2
  refine ⟨rfl, ?_, ba (br w) _, by simp⟩
  unfold QAt
  rw [heap_alloc_new]; rfl

set_option maxHeartbeats 400000 in
theorem new_no (f : Int) (h : f < 1 ∨ 8 < f) (w : World) :
    Calls Try.prog 26 #[.int .i64 f] w fun e w' => e = .returned (.tuple #[.pointer none, .int .i64 1]) ∧ w' = w := by
  rcases h with h | h
  all_goals
    go_enter Try.func26, Try.ntmps26
    go_wp2
    go_ret2
    exact ⟨rfl, rfl⟩

set_option maxRecDepth 100000 in
set_option maxHeartbeats 400000 in
theorem at_any (b : Nat) (q : Q) (n : Nat) (w : World) (h : QAt w b q) (hok : q.ok) (hn : n ≤ 1000000) :
    Calls Try.prog 47 #[.pointer (some ⟨b, 0, none⟩), .int .i64 n] w fun e w' => e = .returned (.pointer (some ⟨b, 2 + (n % q.F) * 2, none⟩)) ∧ ∃ k, w' = w.drewN k := by
  obtain ⟨F1, F8, -⟩ := hok
  have c0 := h.c0
  obtain ⟨j, hj⟩ : ∃ j, j = n % q.F := ⟨_, rfl⟩
  have hj8 : j < q.F := by rw [hj]; exact Nat.mod_lt _ F1
  have e1 : (n : Int).tmod q.F = (j : Int) := by rw [Int.tmod_eq_emod_of_nonneg (by omega), hj]; rfl
  have hne : ((q.F : Int) == 0) = false := beq_eq_false_iff_ne.2 (by omega)
  rw [← hj]
  clear hj h
  go_enter Try.func47, Try.ntmps47
  go_wp2
  go_quiet (fail)
  go_wp2
  go_ret
  exact ⟨rfl, _, rfl⟩

/-- does a number lie in the window? -/
def inWin (q : Q) (n : Int) : Bool := decide (0 ≤ n) && (decide (n < q.N) && decide ((q.N : Int) - q.F ≤ n))

set_option maxRecDepth 100000 in
set_option maxHeartbeats 400000 in
theorem there_any (b : Nat) (q : Q) (n : Int) (w : World) (h : QAt w b q) (hok : q.ok) :
    Calls Try.prog 48 #[.pointer (some ⟨b, 0, none⟩), .int .i64 n] w fun e w' => e = .returned (.bool (inWin q n)) ∧ ∃ k, w' = w.drewN k := by
  obtain ⟨F1, F8, hN⟩ := hok
  have c0 := h.c0
  have c1 := h.c1
  unfold inWin
  clear h
  have en : wrap64 ((q.N : Int) - q.F) = (q.N : Int) - q.F := by unfold wrap64; omega
  cases h1 : decide (0 ≤ n) with
  | true =>
    cases h2 : decide (n < (q.N : Int)) with
    | true =>
      cases h3 : decide ((q.N : Int) - q.F ≤ n) with
      | true =>
        go_enter Try.func48, Try.ntmps48
        go_wp2
        go_quiet (fail)
        go_wp2
        go_ret
        exact ⟨rfl, _, rfl⟩
      | false =>
        go_enter Try.func48, Try.ntmps48
        go_wp2
        go_quiet (fail)
        go_wp2
        go_ret
        exact ⟨rfl, _, rfl⟩
    | false =>
      go_enter Try.func48, Try.ntmps48
      go_wp2
      go_quiet (fail)
      go_wp2
      go_ret
      exact ⟨rfl, _, rfl⟩
  | false =>
    go_enter Try.func48, Try.ntmps48
    go_wp2
    go_quiet (fail)
    go_wp2
    go_ret
    exact ⟨rfl, _, rfl⟩

set_option maxRecDepth 100000 in
set_option maxHeartbeats 400000 in
theorem push_ok (b : Nat) (q : Q) (s : ByteArray) (w : World) (h : QAt w b q) (hok : q.ok) (hn : q.N < 1000000) (hs : s.size ≤ 512) :
    Calls Try.prog 27 #[.pointer (some ⟨b, 0, none⟩), .string s] w fun e w' => e = .returned (.tuple #[.int .i64 q.N, .int .i64 0]) ∧ QAt w' b { (q.setP (q.N % q.F) s).setO (q.N % q.F) true with N := q.N + 1 } ∧ w.grownBy w' (some b) := by
  have c1 := h.c1
  have A := at_any b q q.N w h hok (by omega)
  obtain ⟨j, hj⟩ : ∃ j, j = q.N % q.F := ⟨_, rfl⟩
  have hj8 : j < 8 := by rw [hj]; exact Nat.lt_of_lt_of_le (Nat.mod_lt _ hok.1) hok.2.1
  rw [← hj] at A ⊢
  clear hj
  go_enter Try.func27, Try.ntmps27
  go_wp2_with fail
  refine A.mono ?_
  rintro e w1 ⟨rfl, k1, rfl⟩
  have H1 : QAt (w.drewN k1) b q := h
  have H2 := H1.sP j hj8 s
  have H3 := H2.sO j hj8 true
  have H4 := H3.sN (q.N + 1)
  have d1 := H1.cp j hj8
  have d2 := H1.free (2 + j * 2)
  have d3 := H2.co j hj8
  have d4 := H2.free (2 + j * 2 + 1)
  have d5 : _ = some (Value.int .i64 q.N) := H3.c1
  have d6 := H3.free 1
  have en : wrap64 ((q.N : Int) + 1) = ((q.N + 1 : Nat) : Int) := by unfold wrap64; omega
  go_wp2
  go_ret2
  refine ⟨rfl, ?_, ?_⟩
  · exact H4
  · exact gset (gset (gset (gdrew (World.grownBy.refl w _) k1) _ _) _ _) _ _

set_option maxHeartbeats 400000 in
theorem push_long (b : Nat) (s : ByteArray) (w : World) (hs : 512 < s.size) :
    Calls Try.prog 27 #[.pointer (some ⟨b, 0, none⟩), .string s] w fun e w' => e = .returned (.tuple #[.int .i64 0, .int .i64 2]) ∧ w' = w := by
  go_enter Try.func27, Try.ntmps27
  go_wp2_with fail
  go_ret2
  exact ⟨rfl, rfl⟩

set_option maxHeartbeats 400000 in
theorem push_nil (s : ByteArray) (w : World) :
    Calls Try.prog 27 #[.pointer none, .string s] w fun e w' => e = .returned (.tuple #[.int .i64 0, .int .i64 3]) ∧ w' = w := by
  go_enter Try.func27, Try.ntmps27
  go_wp2_with fail
  go_ret2
  exact ⟨rfl, rfl⟩

set_option maxHeartbeats 400000 in
theorem open_nil (n : Int) (w : World) :
    Calls Try.prog 33 #[.pointer none, .int .i64 n] w fun e w' => e = .returned (.tuple #[.string ⟨#[]⟩, .bool false]) ∧ ∃ k, w' = w.drewN k := by
  go_enter Try.func33, Try.ntmps33
  go_wp2_with fail
  go_ret2
  exact ⟨rfl, 0, rfl⟩

set_option maxHeartbeats 400000 in
theorem came_nil (n : Int) (w : World) :
    Calls Try.prog 29 #[.pointer none, .int .i64 n] w fun e w' => e = .returned (.int .i64 3) ∧ w' = w := by
  go_enter Try.func29, Try.ntmps29
  go_wp2_with fail
  go_ret
  exact ⟨rfl, rfl⟩

set_option maxHeartbeats 400000 in
theorem len_nil (w : World) :
    Calls Try.prog 31 #[.pointer none] w fun e w' => e = .returned (.int .i64 0) ∧ w' = w := by
  go_enter Try.func31, Try.ntmps31
  go_wp2_with fail
  go_ret
  exact ⟨rfl, rfl⟩

set_option maxHeartbeats 400000 in
theorem next_nil (w : World) :
    Calls Try.prog 32 #[.pointer none] w fun e w' => e = .returned (.int .i64 0) ∧ w' = w := by
  go_enter Try.func32, Try.ntmps32
  go_wp2_with fail
  go_ret
  exact ⟨rfl, rfl⟩

set_option maxHeartbeats 400000 in
theorem next_any (b : Nat) (q : Q) (w : World) (h : QAt w b q) :
    Calls Try.prog 32 #[.pointer (some ⟨b, 0, none⟩)] w fun e w' => e = .returned (.int .i64 q.N) ∧ w' = w := by
  have c1 := h.c1
  go_enter Try.func32, Try.ntmps32
  go_wp2_with fail
  go_ret
  exact ⟨rfl, rfl⟩

set_option maxHeartbeats 400000 in
theorem len_any (b : Nat) (q : Q) (w : World) (h : QAt w b q) :
    Calls Try.prog 31 #[.pointer (some ⟨b, 0, none⟩)] w fun e w' => e = .returned (.int .i64 (min q.N q.F : Nat)) ∧ ∃ k, w' = w.drewN k := by
  have c0 := h.c0
  have c1 := h.c1
  have em : ((min q.N q.F : Nat) : Int) = min (q.N : Int) (q.F : Int) := by omega
  rw [em]
  clear h
  go_enter Try.func31, Try.ntmps31
  go_wp2_with fail
  go_quiet (fail)
  go_wp2
  all_goals
    go_ret
    exact ⟨ret_int (by omega), _, rfl⟩

set_option maxRecDepth 100000 in
set_option maxHeartbeats 400000 in
theorem came_any (b : Nat) (q : Q) (n : Int) (w : World) (h : QAt w b q) (hok : q.ok) :
    Calls Try.prog 29 #[.pointer (some ⟨b, 0, none⟩), .int .i64 n] w fun e w' => e = .returned (.int .i64 (if inWin q n then 0 else 271)) ∧ QAt w' b (if inWin q n then q.setO (n.toNat % q.F) false else q) ∧ w.grownBy w' (some b) := by
  have T := there_any b q n w h hok
  cases hw : inWin q n with
  | false =>
    simp only [hw] at T
    go_enter Try.func29, Try.ntmps29
    go_wp2_with fail
    refine T.mono ?_
    rintro e w1 ⟨rfl, k1, rfl⟩
    have H0 : QAt (w.drewN k1) b q := h
    go_wp2_with fail
    go_ret
    exact ⟨rfl, H0, gdrew (World.grownBy.refl w _) k1⟩
  | true =>
    simp only [hw] at T
    obtain ⟨m, rfl⟩ : ∃ m : Nat, n = m := by simp [inWin] at hw; exact ⟨n.toNat, by omega⟩
    have hm : m < q.N := by simp [inWin] at hw; omega
    have A := fun k => at_any b q m (w.drewN k) h hok (by have := hok.2.2; omega)
    obtain ⟨j, hj⟩ : ∃ j, j = m % q.F := ⟨_, rfl⟩
    have hj8 : j < 8 := by rw [hj]; exact Nat.lt_of_lt_of_le (Nat.mod_lt _ hok.1) hok.2.1
    rw [Int.toNat_natCast]
    simp only [← hj] at A ⊢
    clear hj
    go_enter Try.func29, Try.ntmps29
    go_wp2_with fail
    refine T.mono ?_
    rintro e w1 ⟨rfl, k1, rfl⟩
    go_wp2_with fail
    refine (A k1).mono ?_
    rintro e w1 ⟨rfl, k2, rfl⟩
    have H1 : QAt (w.drewN (k1 + k2)) b q := h
    have H2 := H1.sO j hj8 false
    have d1 := h.co j hj8
    have d2 := h.free (2 + j * 2 + 1)
    go_wp2
    go_ret
    exact ⟨rfl, H2, gset (gdrew (World.grownBy.refl w _) _) _ _⟩

set_option maxRecDepth 100000 in
set_option maxHeartbeats 400000 in
theorem open_any (b : Nat) (q : Q) (n : Int) (w : World) (h : QAt w b q) (hok : q.ok) :
    Calls Try.prog 33 #[.pointer (some ⟨b, 0, none⟩), .int .i64 n] w fun e w' => e = .returned (.tuple #[.string (if inWin q n && q.O (n.toNat % q.F) then q.P (n.toNat % q.F) else ⟨#[]⟩), .bool (inWin q n && q.O (n.toNat % q.F))]) ∧ ∃ k, w' = w.drewN k := by
  have T := there_any b q n w h hok
  cases hw : inWin q n with
  | false =>
    simp only [hw] at T
    go_enter Try.func33, Try.ntmps33
    go_wp2_with fail
    refine T.mono ?_
    rintro e w1 ⟨rfl, k1, rfl⟩
    go_wp2_with fail
    go_ret2
    exact ⟨rfl, _, rfl⟩
  | true =>
    simp only [hw] at T
    obtain ⟨m, rfl⟩ : ∃ m : Nat, n = m := by simp [inWin] at hw; exact ⟨n.toNat, by omega⟩
    have hm : m < q.N := by simp [inWin] at hw; omega
    have A := fun k => at_any b q m (w.drewN k) h hok (by have := hok.2.2; omega)
    obtain ⟨j, hj⟩ : ∃ j, j = m % q.F := ⟨_, rfl⟩
    have hj8 : j < 8 := by rw [hj]; exact Nat.lt_of_lt_of_le (Nat.mod_lt _ hok.1) hok.2.1
    rw [Int.toNat_natCast]
    simp only [← hj] at A ⊢
    clear hj
    have d0 := h.co j hj8
    have dp := h.cp j hj8
    generalize q.P j = pj at *
    cases ho : q.O j with
    | false =>
      rw [ho] at d0
      go_enter Try.func33, Try.ntmps33
      go_wp2_with fail
      refine T.mono ?_
      rintro e w1 ⟨rfl, k1, rfl⟩
      go_wp2_with fail
      refine (A k1).mono ?_
      rintro e w1 ⟨rfl, k2, rfl⟩
      go_wp2_with fail
      go_ret2
      exact ⟨rfl, k1 + k2, by simp [World.drewN_drewN, Nat.add_assoc]⟩
    | true =>
      rw [ho] at d0
      go_enter Try.func33, Try.ntmps33
      go_wp2_with fail
      refine T.mono ?_
      rintro e w1 ⟨rfl, k1, rfl⟩
      go_wp2_with fail
      refine (A k1).mono ?_
      rintro e w1 ⟨rfl, k2, rfl⟩
      go_wp2_with fail
      refine (A (k1 + k2)).mono ?_
      rintro e w1 ⟨rfl, k3, rfl⟩
      go_wp2_with fail
      go_ret2
      exact ⟨rfl, k1 + k2 + k3, by simp [World.drewN_drewN, Nat.add_assoc]⟩
end Go.Proofs.Ytidfahjebjaneaa.Que
