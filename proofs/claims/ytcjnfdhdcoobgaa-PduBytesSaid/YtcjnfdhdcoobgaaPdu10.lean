/- The walk of the document's Bytes. -/
import Derived.Test.YtcjnfdhdcoobgaaPdu9
set_option linter.unusedVariables false
set_option linter.unusedSimpArgs false
namespace Go.Proofs.Ytcjnfdhdcoobgaa.Pdu
open Go.RowKit Go.Proofs.YtcjnfdhdcoobgaaW.PrintWords Go.Proofs.YtcjnfdhdcoobgaaW.PrintLast Go.Proofs.YtcjnfdhdcoobgaaW.PrintMore Go.Proofs.Ytcjnfdhdcoobgaa.Chk

theorem Box4.keep {w W w2 : World} {B : Nat} {a b c d : Value} (h : (W.cell? ⟨B, 0, none⟩ = some a ∧ W.cell? ⟨B, 1, none⟩ = some b ∧ W.cell? ⟨B, 2, none⟩ = some c ∧ W.cell? ⟨B, 3, none⟩ = some d) ∧ Below w.heap.size w W ∧ B < W.heap.size) (hb : Below W.heap.size W w2) :
    (w2.cell? ⟨B, 0, none⟩ = some a ∧ w2.cell? ⟨B, 1, none⟩ = some b ∧ w2.cell? ⟨B, 2, none⟩ = some c ∧ w2.cell? ⟨B, 3, none⟩ = some d) ∧ Below w.heap.size w w2 ∧ B < w2.heap.size := by
  obtain ⟨⟨h1, h2, h3, h0⟩, h4, h5⟩ := h
  obtain ⟨c1, -⟩ := bcell hb
  exact ⟨⟨by rw [c1 _ _ h5]; exact h1, by rw [c1 _ _ h5]; exact h2, by rw [c1 _ _ h5]; exact h3, by rw [c1 _ _ h5]; exact h0⟩, bt h4 hb, Nat.lt_of_lt_of_le h5 hb.size⟩
theorem Box4.below {w W : World} {B : Nat} {a b c d : Value} (h : (W.cell? ⟨B, 0, none⟩ = some a ∧ W.cell? ⟨B, 1, none⟩ = some b ∧ W.cell? ⟨B, 2, none⟩ = some c ∧ W.cell? ⟨B, 3, none⟩ = some d) ∧ Below w.heap.size w W ∧ B < W.heap.size) : Below w.heap.size w W := h.2.1
theorem Box4.of {w w1 : World} {B : Nat} {a b c d : Value} {t : TypeId} (h : w1.heap[B]? = some (.cells #[a, b, c, d] t (0, 0))) (hb1 : Below w.heap.size w w1) :
    (w1.drew.cell? ⟨B, 0, none⟩ = some a ∧ w1.drew.cell? ⟨B, 1, none⟩ = some b ∧ w1.drew.cell? ⟨B, 2, none⟩ = some c ∧ w1.drew.cell? ⟨B, 3, none⟩ = some d) ∧ Below w.heap.size w w1.drew ∧ B < w1.drew.heap.size :=
  ⟨⟨blk_cell (w := w1.drew) h 0, blk_cell (w := w1.drew) h 1, blk_cell (w := w1.drew) h 2, blk_cell (w := w1.drew) h 3⟩, bd hb1, blk_lt (w := w1.drew) h⟩

set_option maxRecDepth 100000 in
set_option maxHeartbeats 2000000 in
theorem rbytes_yes (K E N : Int) (L : List Int) (w : World) (hL : Bytes L) (h : May K E N L) :
    Calls Try.prog 25 #[.agg #[.int .i64 K, .int .i64 E, .int .i64 N, .string (strOfNums L)]] w fun e w' => e = .returned (.tuple #[.string (strOfNums (sealL (bodyL K E N L))), .int .i64 0]) ∧ Below w.heap.size w w' := by
  have T := fun w => rcheck_any K E N L w (by have := h.2.2.2.2.2.2; omega)
  rw [decide_eq_true h] at T
  obtain ⟨h1, h2, h3, h4, h5, h6, h7⟩ := h
  have hBB : Bytes (bodyL K E N L) := body_byte K E N L (by omega) hL
  have TS := Lib.hid (fun W => rseal_knd Knd.k24 (bodyL K E N L) hBB (by rw [body_length]; omega) W)
  have TK := Lib.hid (fun W => rnumber_any K 1 (by omega) (by decide) W)
  have TE := Lib.hid (fun W => rnumber_any E 3 (by omega) (by decide) W)
  have TN := Lib.hid (fun W => rnumber_any N 3 (by omega) (by decide) W)
  have TL := Lib.hid (fun W => rnumber_any (L.length : Int) 2 (by omega) (by decide) W)
  have eB : strOfNums (be K 1 1) ++ strOfNums (be E 3 3) ++ strOfNums (be N 3 3) ++ strOfNums (be L.length 2 2) ++ strOfNums L = strOfNums (bodyL K E N L) := by
    simp only [str_append]
    have e1 : be K 1 1 = [K] := by
      show [K / 1 % 256] = [K]
      congr 1; omega
    rw [e1]; rfl
  have sK : (strOfNums (be K 1 1)).size = 1 := by rw [strOfNums_size, be_length]
  have sE : (strOfNums (be E 3 3)).size = 3 := by rw [strOfNums_size, be_length]
  have sN : (strOfNums (be N 3 3)).size = 3 := by rw [strOfNums_size, be_length]
  have sL : (strOfNums (be L.length 2 2)).size = 2 := by rw [strOfNums_size, be_length]
  have hsz := strOfNums_size L
  rw [← hsz] at TL sL h7
  have e2 : be L.length 2 2 = be (strOfNums L).size 2 2 := by rw [hsz]
  rw [e2] at eB
  clear e2 hsz h1 h2 h3 h4 h5 h6 hL hBB
  generalize strOfNums (be K 1 1) = qK at TK eB sK
  generalize strOfNums (be E 3 3) = qE at TE eB sE
  generalize strOfNums (be N 3 3) = qN at TN eB sN
  generalize strOfNums L = s at TL eB sL h7 T ⊢
  generalize strOfNums (be s.size 2 2) = qL at TL eB sL
  have HEB := Lib.hid eB
  clear eB
  go_enter Try.func25, Try.ntmps25
  go_wp2_with fail
  have hx0 : (w.alloc (.cells #[.int .i64 K, .int .i64 E, .int .i64 N, .string s] 41)).heap[w.heap.size]? = some (.cells #[.int .i64 K, .int .i64 E, .int .i64 N, .string s] 41 (0, 0)) := heap_alloc_new w _
  refine (T _).mono ?_
  rintro e w1 ⟨rfl, hb1⟩
  have hx1 := (hb1.block _ (blk_lt hx0)).trans hx0
  have hb1' : Below w.heap.size w w1 := bt (ba (br w) _) hb1
  have HX1 := Box4.of hx1 hb1'
  clear hx0 hx1 hb1 T
  go_upto_region 6 with fail
  have hq : ¬ 9223372036854775807 < 9 + s.size := by omega
  go_region_held3 (fun w' => (w'.cell? ⟨w.heap.size, 0, none⟩ = some (.int .i64 K) ∧ w'.cell? ⟨w.heap.size, 1, none⟩ = some (.int .i64 E) ∧ w'.cell? ⟨w.heap.size, 2, none⟩ = some (.int .i64 N) ∧ w'.cell? ⟨w.heap.size, 3, none⟩ = some (.string s)) ∧ Below w.heap.size w w' ∧ w.heap.size < w'.heap.size)
    (first | assumption | exact HX1 | exact Box4.keep (by assumption) (by assumption))
    (first
      | (go_at_call_of 59 (Value.int .i64 K); refine (TK.out _).mono ?_; rintro e w2 ⟨rfl, hb2⟩)
      | (go_at_call_of 59 (Value.int .i64 E); refine (TE.out _).mono ?_; rintro e w3 ⟨rfl, hb3⟩)
      | (go_at_call_of 59 (Value.int .i64 N); refine (TN.out _).mono ?_; rintro e w4 ⟨rfl, hb4⟩)
      | (go_at_call_of 59 (Value.int .i64 (s.size : Int)); refine (TL.out _).mono ?_; rintro e w5 ⟨rfl, hb5⟩)
      | (go_at_call 58; rw [HEB.out]; refine (TS.out _).mono ?_; rintro e w6 ⟨rfl, hb6⟩)
      | fail)
  all_goals
    go_wp2
    go_ret2
    exact ⟨rfl, Box4.below (by assumption)⟩

set_option maxRecDepth 100000 in
set_option maxHeartbeats 400000 in
theorem rbytes_no (K E N : Int) (L : List Int) (w : World) (hl : L.length ≤ 140737488351232) (h : ¬ May K E N L) :
    Calls Try.prog 25 #[.agg #[.int .i64 K, .int .i64 E, .int .i64 N, .string (strOfNums L)]] w fun e w' => e = .returned (.tuple #[.string ⟨#[]⟩, .int .i64 1]) ∧ Below w.heap.size w w' := by
  have T := fun w => rcheck_any K E N L w hl
  rw [decide_eq_false h] at T
  clear h
  generalize strOfNums L = st at T
  go_enter Try.func25, Try.ntmps25
  go_wp2_with fail
  refine (T _).mono ?_
  rintro e w1 ⟨rfl, hb1⟩
  go_wp2
  go_ret2
  exact ⟨rfl, bt (ba (br w) _) hb1⟩
end Go.Proofs.Ytcjnfdhdcoobgaa.Pdu
