/- The walks of the statements' alive and of RiffBytes. -/
import Derived.Test.YtcjnfdhdcoobgaaRiff12
import Derived.Test.YtcjnfdhdcoobgaaRiff7
set_option linter.unusedVariables false
set_option linter.unusedSimpArgs false
namespace Go.Proofs.Ytcjnfdhdcoobgaa.Rif
open Go.RowKit Go.Proofs.YtcjnfdhdcoobgaaW.PrintWords Go.Proofs.YtcjnfdhdcoobgaaW.PrintLast Go.Proofs.YtcjnfdhdcoobgaaW.PrintMore Go.Proofs.Ytcjnfdhdcoobgaa.Chk

theorem parse_nil (w : World) : Calls Try.prog 41 #[.slice none 0 0] w fun e w' => e = .returned (.tuple #[.agg #[.int .i64 0, .int .i64 0, .slice none 0 0], .int .i64 140]) ∧ Below w.heap.size w w' := by
  have h := parse_any none 0 0 [] w (by simp) (by simp) (by intro x hx; simp at hx) (reads_nil w .u8 none)
  have e : parseP [] = none := by
    unfold parseP filesP
    rw [if_neg (fun h => by have := h.1; simp at this)]
    rfl
  rw [e] at h
  exact h
set_option maxRecDepth 100000 in
set_option maxHeartbeats 1000000 in
theorem alive (w : World) : Calls Try.prog 30 #[] w fun e w' => e = .returned (.bool true) ∧ Below w.heap.size w w' := by
  have TB := fun W => bytes_yes 0 1 none 0 0 [] W (by decide) (reads_nil W .i16 none) (by simp)
  have hl : (riffL 0 1 []).length = 44 := by decide
  have h0 : rd (riffL 0 1 []) 0 = 82 := by decide
  generalize riffL 0 1 [] = L at TB hl h0
  have HL := Lib.hid (And.intro hl h0)
  clear hl h0
  go_enter Try.func30, Try.ntmps30
  go_wp2_with fail
  refine (TB _).mono ?_
  rintro e w1 ⟨v1, rfl, hown, hb1⟩
  obtain ⟨A1, c1, rfl, hr1⟩ := own_reads hown
  clear TB hown
  go_wp2_with fail
  refine (parse_nil _).mono ?_
  rintro e w2 ⟨rfl, hb2⟩
  obtain ⟨ad, rfl, y⟩ := (hr1.below hb2).at_ 0 (by omega) (by have := HL.out.1; omega)
  have hy : (w2.alloc (.cells #[.int .i64 0, .int .i64 0, .slice none 0 0] 60)).cell? ad = some (.int .u8 82) := by
    have h := pw_cell_below (ba (br w2) (.cells #[.int .i64 0, .int .i64 0, .slice none 0 0] 60)) y
    rw [HL.out.2] at h
    simpa [Addr.add] using h
  have hl : L.length = 44 := HL.out.1
  have hb := ba (bt hb1 hb2) (.cells #[.int .i64 0, .int .i64 0, .slice none 0 0] 60)
  clear hr1 y
  go_wp2
  go_ret
  exact ⟨rfl, hb⟩
theorem riff_byte (R C : Int) (xs : List Int) : Bytes (riffL R C xs) := by
  have h1 : Bytes (restL R C xs) := by
    unfold restL chunkL
    have b4 : ∀ a b c d : Int, 0 ≤ a → a ≤ 255 → 0 ≤ b → b ≤ 255 → 0 ≤ c → c ≤ 255 → 0 ≤ d → d ≤ 255 → Bytes [a, b, c, d] := fun a b c d h1 h2 h3 h4 h5 h6 h7 h8 x hx => by
      simp only [List.mem_cons, List.not_mem_nil, or_false] at hx
      rcases hx with rfl | rfl | rfl | rfl <;> omega
    have b0 : ∀ p : Prop, [Decidable p] → Bytes (if p then [0] else []) := fun p _ => by split <;> intro x hx <;> simp at hx <;> omega
    exact Bytes.append (Bytes.append (Bytes.append (Bytes.append (Bytes.append (Bytes.append (Bytes.append (Bytes.append (b4 87 65 86 69 (by decide) (by decide) (by decide) (by decide) (by decide) (by decide) (by decide) (by decide)) (b4 102 109 116 32 (by decide) (by decide) (by decide) (by decide) (by decide) (by decide) (by decide) (by decide))) (le_byte _ _)) (formL_byte _ _)) (b0 _)) (b4 100 97 116 97 (by decide) (by decide) (by decide) (by decide) (by decide) (by decide) (by decide) (by decide))) (le_byte _ _)) (smpL_byte _ _)) (b0 _)
  unfold riffL
  refine Bytes.append (Bytes.append ?_ (le_byte _ _)) h1
  intro x hx
  simp only [List.mem_cons, List.not_mem_nil, or_false] at hx
  rcases hx with rfl | rfl | rfl | rfl <;> omega

set_option maxRecDepth 100000 in
set_option maxHeartbeats 2000000 in
theorem bytes_walk (R C : Int) (A : Option Addr) (n c : Nat) (xs : List Int) (w : World) (hn : n ≤ 9223372036854775807) (hr : ReadsInt w .i16 A n xs) (hx : ∀ x ∈ xs, -32768 ≤ x ∧ x ≤ 32767) :
    Calls Try.prog 7 #[.agg #[.int .i64 R, .int .i64 C, .slice A n c]] w fun e w' => e = .returned (.bool true) ∧ Below w.heap.size w w' := by
  have HR := Lib.hid hr
  have HX := Lib.hid hx
  clear hr hx
  go_enter Try.func7, Try.ntmps7
  go_wp2_with fail
  refine (alive _).mono ?_
  rintro e w1 ⟨rfl, hb1⟩
  have hx1 : w1.heap[w.heap.size]? = some (.cells #[.int .i64 R, .int .i64 C, .slice A n c] 58 (0, 0)) := (hb1.block _ (by simp)).trans (heap_alloc_new w _)
  have hb1' : Below w.heap.size w w1 := bt (ba (br w) _) hb1
  have z0 := blk_cell hx1 0
  have z1 := blk_cell hx1 1
  have z2 := blk_cell hx1 2
  clear hb1
  rcases Classical.em (300 < n ∧ n ≤ 4096) with hl | hl
  · obtain ⟨l1, l2⟩ := hl
    go_wp2
    go_ret
    exact ⟨rfl, hb1'⟩
  · have d3 : n ≤ 300 ∨ (300 < n ∧ 4096 < n) := by omega
    clear hl
    rcases Classical.em (¬ May R C n) with hm | hm
    · have TB := fun W => bytes_no R C A n c W hn hm
      have TC := fun W => rcheck_any R C A n c W hn
      have TK := fun W => check_any R C A n c W hn
      rw [decide_eq_false hm] at TC TK
      simp only [Bool.false_eq_true, if_false] at TK
      clear hm
      rcases d3 with d3 | ⟨d3, d4⟩
      all_goals
        go_wp2_with fail
        refine (TB _).mono ?_
        rintro e w2 ⟨rfl, hb2⟩
        have hx2 := (hb2.block _ (blk_lt hx1)).trans hx1
        have q0 := blk_cell hx2 0
        have q1 := blk_cell hx2 1
        have q2 := blk_cell hx2 2
        have hb2' := bt hb1' hb2
        clear z0 z1 z2
        go_wp2_with fail
        refine (TC _).mono ?_
        rintro e w3 ⟨rfl, hb3⟩
        have hx3 := (hb3.block _ (blk_lt hx2)).trans hx2
        have r0 := blk_cell hx3 0
        have r1 := blk_cell hx3 1
        have r2 := blk_cell hx3 2
        have hb3' := bt hb2' hb3
        clear q0 q1 q2
        go_wp2_with fail
        refine (TK _).mono ?_
        rintro e w4 ⟨rfl, hb4⟩
        have hb4' := bt hb3' hb4
        clear r0 r1 r2
        go_wp2
        go_ret
        exact ⟨rfl, hb4'⟩
    · replace hm := Classical.not_not.1 hm
      have HB : Hid (∀ W, Below w.heap.size w W → Calls Try.prog 31 #[.agg #[.int .i64 R, .int .i64 C, .slice A n c]] W (Row8E (riffL R C xs) 0 W)) := fun W h => bytes_yes R C A n c xs W hm (HR.out.below h) HX.out
      have HD : Hid (∀ W, Below w.heap.size w W → Calls Try.prog 34 #[.agg #[.int .i64 R, .int .i64 C, .slice A n c]] W fun e w' => e = .returned (.string (strOfNums (riffL R C xs))) ∧ Below W.heap.size W w') := fun W h => rbytes_any R C A n c xs W hm (HR.out.below h) HX.out
      have TC := fun W => rcheck_any R C A n c W hn
      have TK := fun W => check_any R C A n c W hn
      rw [decide_eq_true hm] at TC TK
      simp only [if_true] at TK
      clear hm
      generalize riffL R C xs = L at HB HD
      rcases d3 with d3 | ⟨d3, d4⟩
      all_goals
        go_wp2_with fail
        refine (HB.out _ hb1').mono ?_
        rintro e w2 ⟨v2, rfl, hown, hb2⟩
        have hx2 := (hb2.block _ (blk_lt hx1)).trans hx1
        have q0 := blk_cell hx2 0
        have q1 := blk_cell hx2 1
        have q2 := blk_cell hx2 2
        have hb2' := bt hb1' hb2
        obtain ⟨A2, c2, rfl⟩ := own_slice hown
        clear z0 z1 z2
        go_wp2_with fail
        refine (TC _).mono ?_
        rintro e w3 ⟨rfl, hb3⟩
        have hx3 := (hb3.block _ (blk_lt hx2)).trans hx2
        have hown3 := pw_own_below hown hb3
        have hb3' := bt hb2' hb3
        have HS : Hid (∀ W, Below w3.heap.size w3 W → W.cell? ⟨w.heap.size, 0, none⟩ = some (.int .i64 R) ∧ W.cell? ⟨w.heap.size, 1, none⟩ = some (.int .i64 C) ∧ W.cell? ⟨w.heap.size, 2, none⟩ = some (.slice A n c) ∧ (convert 37 9 (.slice A2 L.length c2)).run Try.prog W = .ok (.string (strOfNums L)) W) := fun W h => by
          have hq := (h.block _ (blk_lt hx3)).trans hx3
          exact ⟨blk_cell hq 0, blk_cell hq 1, blk_cell hq 2, conv_own (pw_own_below hown3 h)⟩
        clear q0 q1 q2
        go_upto_region 8 with fail
        go_region_held3 (fun w' => w'.cell? ⟨w.heap.size, 0, none⟩ = some (.int .i64 R) ∧ w'.cell? ⟨w.heap.size, 1, none⟩ = some (.int .i64 C) ∧ w'.cell? ⟨w.heap.size, 2, none⟩ = some (.slice A n c) ∧ (convert 37 9 (.slice A2 L.length c2)).run Try.prog w' = .ok (.string (strOfNums L)) w')
          (first | exact HS.out _ (bd (br _)) | exact HS.out _ (bt (bd (br _)) (by assumption)) | exact HS.out _ (by assumption))
          (first
            | (go_at_call 34; refine (HD.out _ (bd hb3')).mono ?_; rintro e w5 ⟨rfl, hb5⟩; have hb5' := bt (bd (br w3)) hb5)
            | (go_at_call 33; refine (TK _).mono ?_; rintro e w6 ⟨rfl, hb6⟩; have hb6' := bt hb5' hb6)
            | fail)
        all_goals
          go_wp2
          go_ret
          exact ⟨rfl, bt hb3' hb6'⟩
end Go.Proofs.Ytcjnfdhdcoobgaa.Rif
