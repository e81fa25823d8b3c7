/- The walk of pdu.Parse, of bytes whose sum fits. -/
import Derived.Test.YtcjnfdhdcoobgaaPdu3
set_option linter.unusedVariables false
set_option linter.unusedSimpArgs false
namespace Go.Proofs.Ytcjnfdhdcoobgaa.Pdu
open Go.RowKit Go.Proofs.YtcjnfdhdcoobgaaW.PrintWords Go.Proofs.YtcjnfdhdcoobgaaW.PrintLast Go.Proofs.YtcjnfdhdcoobgaaW.PrintMore Go.Proofs.Ytcjnfdhdcoobgaa.Chk

set_option maxRecDepth 100000 in
set_option maxHeartbeats 4000000 in
theorem parse_fit (A : Option Addr) (n c : Nat) (l : List Int) (w : World) (hl : l.length ≤ 4096) (hc : l.length ≤ c) (hlu : Bytes l) (hr : ReadsInt w .u8 A n l) (h : fits 24 5592405 1627 l) (b : List Int) (hbd : b = l.take (l.length - 3)) (K E N : Int) (P : List Int) (hp : (K, E, N, P) = parts b) :
    Calls Try.prog 26 #[.slice A n c] w fun e w' =>
      e = .returned (if 9 ≤ b.length ∧ valN ((b.take 9).drop 7) 2 = b.length - 9 ∧ May K E N P then .tuple #[.agg #[.int .i64 K, .int .i64 E, .int .i64 N, .string (strOfNums P)], .int .i64 0] else .tuple #[.agg #[.int .i64 0, .int .i64 0, .int .i64 0, .string ⟨#[]⟩], .int .i64 260]) ∧ Below w.heap.size w w' := by
  have HL := Lib.hid hlu
  have H := Lib.hid h
  have hbB : Bytes b := by rw [hbd]; exact hlu.take _
  have hbl : b.length ≤ 4096 := by rw [hbd, List.length_take]; omega
  obtain ⟨i8, hi8, -, hs8, -⟩ := info_parts info8
  have HBB := Lib.hid hbB
  have HBD := Lib.hid hbd
  have HP := Lib.hid hp
  clear hlu h hbd hp hbB
  obtain ⟨R, hR⟩ : ∃ R : Value, R = (if 9 ≤ b.length ∧ valN ((b.take 9).drop 7) 2 = b.length - 9 ∧ May K E N P then .tuple #[.agg #[.int .i64 K, .int .i64 E, .int .i64 N, .string (strOfNums P)], .int .i64 0] else .tuple #[.agg #[.int .i64 0, .int .i64 0, .int .i64 0, .string ⟨#[]⟩], .int .i64 260]) := ⟨_, rfl⟩
  rw [← hR]
  replace hR := Lib.hid hR
  go_enter Try.func26, Try.ntmps26
  go_wp2_with fail
  refine (open_of Knd.k24 A n c l _ hl hc HL.out (hr.below (ba (br _) _))).mono ?_
  rintro e w1 (⟨-, v, rfl, hown, hb1⟩ | ⟨hf, -⟩)
  · rw [show (24 : Nat) / 8 = 3 from rfl, ← HBD.out] at hown
    have hb : Below w.heap.size w w1 := bt (ba (br w) _) hb1
    have hx1 : w1.heap[w.heap.size]? = some (.cells #[.int .i64 0, .int .i64 0, .int .i64 0, .string ⟨#[]⟩] 44 (0, 0)) := (hb1.block _ (by simp)).trans (heap_alloc_new w _)
    have z0 : w1.cell? ⟨w.heap.size, 0, none⟩ = some (.int .i64 0) := blk_cell hx1 0
    have z1 : w1.cell? ⟨w.heap.size, 1, none⟩ = some (.int .i64 0) := blk_cell hx1 1
    have z2 : w1.cell? ⟨w.heap.size, 2, none⟩ = some (.int .i64 0) := blk_cell hx1 2
    have z3 : w1.cell? ⟨w.heap.size, 3, none⟩ = some (.string ⟨#[]⟩) := blk_cell hx1 3
    have f0 := blk_frozen hx1 0
    have f1 := blk_frozen hx1 1
    have f2 := blk_frozen hx1 2
    have f3 := blk_frozen hx1 3
    obtain ⟨Ab, cb, rfl, hcb, hrb⟩ := own_reads_le hown
    clear hb1 hown
    by_cases h9 : 9 ≤ b.length
    · have q79 := print_mid_int (P := Try.prog) (k := .u8) 37 5 Try.underlying37 hi8 hs8 Ab cb b 7 9 (by omega) (by omega) (by omega) hcb
      obtain ⟨A79, hm79, hr79, -⟩ := q79
      have e79 : ((b.take 9).drop 7).length = 2 := by rw [List.length_drop, List.length_take]; omega
      have hm79' : ∀ W : World, (Instr.slice 37 (.slice Ab b.length cb) (some (.int .i64 7)) (some (.int .i64 9)) none).run Try.prog W = .ok (.slice A79 2 (cb - 7)) W := fun W => by have := hm79 W; rw [show ((9 : Int)).toNat = 9 from rfl, show ((7 : Int)).toNat = 7 from rfl, e79] at this; exact this
      have hn79 := number_any A79 2 (cb - 7) ((b.take 9).drop 7) w1 (by omega) ((HBB.out.take 9).drop 7) (by have := hr79 w1 hrb; rw [show ((9 : Int)).toNat = 9 from rfl, show ((7 : Int)).toNat = 7 from rfl, e79] at this; exact this)
      generalize hV : valN ((b.take 9).drop 7) 2 = V at hn79
      have HV := Lib.hid hV
      clear hV hm79 hr79 e79
      by_cases hVe : V = b.length - 9
      · have heq : ((V : Int) == (b.length : Int) - 9) = true := beq_iff_eq.2 (by omega)
        have hne2 : ((V : Int) != (b.length : Int) - 9) = false := by rw [bne, heq]; rfl
        obtain ⟨A14, hm14, hr14, -⟩ := print_mid_int (P := Try.prog) (k := .u8) 37 5 Try.underlying37 hi8 hs8 Ab cb b 1 4 (by omega) (by omega) (by omega) hcb
        obtain ⟨A47, hm47, hr47, -⟩ := print_mid_int (P := Try.prog) (k := .u8) 37 5 Try.underlying37 hi8 hs8 Ab cb b 4 7 (by omega) (by omega) (by omega) hcb
        obtain ⟨A9, hm9, hr9, -⟩ := print_cut_int (P := Try.prog) (k := .u8) 37 5 Try.underlying37 hi8 hs8 Ab cb b 9 (by omega) (by omega) hcb
        have e14 : ((b.take (4 : Int).toNat).drop (1 : Int).toNat).length = 3 := by show ((b.take 4).drop 1).length = 3; rw [List.length_drop, List.length_take]; omega
        have e47 : ((b.take (7 : Int).toNat).drop (4 : Int).toNat).length = 3 := by show ((b.take 7).drop 4).length = 3; rw [List.length_drop, List.length_take]; omega
        simp only [e14] at hm14 hr14
        simp only [e47] at hm47 hr47
        have hn14 := fun W (h : ReadsInt W .u8 Ab b.length b) => number_any A14 3 (cb - (1 : Int).toNat) _ W (by omega) ((HBB.out.take 4).drop 1) (hr14 W h)
        have hn47 := fun W (h : ReadsInt W .u8 Ab b.length b) => number_any A47 3 (cb - (4 : Int).toNat) _ W (by omega) ((HBB.out.take 7).drop 4) (hr47 W h)
        have hPP := HP.out
        simp only [parts, Prod.mk.injEq] at hPP
        obtain ⟨hK, hE, hN, hPd⟩ := hPP
        have hcv : ∀ W, ReadsInt W .u8 Ab b.length b → (convert 37 9 (.slice A9 (b.drop (9 : Int).toNat).length (cb - (9 : Int).toNat))).run Try.prog W = .ok (.string (strOfNums P)) W := fun W h => by
          have := string_of_reads (P := Try.prog) (c := cb - (9 : Int).toNat) (dst := 9) Try.underlying37 Try.underlying5 Try.underlying9 (hr9 W h)
          rw [hPd]; exact this
        obtain ⟨ad, rfl, hc0⟩ := hrb.2.2 (by omega)
        have y0 : w1.cell? ad = some (.int .u8 K) := by have := hc0 0 (by omega); rw [hK]; simpa [Addr.add, rd] using this
        have hKb : 0 ≤ K ∧ K ≤ 255 := by rw [hK]; exact rd_byte HBB.out 0
        have eK : IntKind.i64.wrap K = K := IntWalk.i64_in _ (by omega)
        simp only [← hE] at hn14
        simp only [← hN] at hn47
        have hPl : P.length ≤ 4096 := by rw [hPd, List.length_drop]; omega
        have SK : ∀ W, Below w1.heap.size w1 W → W.cell? ad = some (.int .u8 K) ∧ (convert 37 9 (.slice A9 (b.drop (9 : Int).toNat).length (cb - (9 : Int).toNat))).run Try.prog W = .ok (.string (strOfNums P)) W := fun W h => ⟨pw_cell_below h y0, hcv W (hrb.below h)⟩
        have HSK := Lib.hid SK
        have HN14 := Lib.hid hn14
        have HN47 := Lib.hid hn47
        have HRB := Lib.hid hrb
        have hl9 : (b.drop (9 : Int).toNat).length = b.length - 9 := by rw [List.length_drop]; rfl
        have hVV := Lib.hid hVe
        have HHL := Lib.hid hK
        clear hr14 hr47 hr9 hc0 hK hE hN hPd hcv SK hn14 hn47 e14 e47 hVe hrb
        generalize (b.drop (9 : Int).toNat).length = m9 at hm9 HSK hl9
        generalize cb - (9 : Int).toNat = c9 at hm9 HSK
        generalize cb - (1 : Int).toNat = c14 at hm14 HN14
        generalize cb - (4 : Int).toNat = c47 at hm47 HN47
        clear hl9
        have hT := fun W => may_any K E N P W (by omega)
        have hMm : ∃ m : Bool, m = decide (May K E N P) := ⟨_, rfl⟩
        obtain ⟨m, hm⟩ := hMm
        rw [← hm] at hT
        have hRm : Hid (R = if m = true then .tuple #[.agg #[.int .i64 K, .int .i64 E, .int .i64 N, .string (strOfNums P)], .int .i64 0] else .tuple #[.agg #[.int .i64 0, .int .i64 0, .int .i64 0, .string ⟨#[]⟩], .int .i64 260]) := by
          show R = _
          rw [hR.out, hm]
          by_cases h : May K E N P
          · rw [if_pos ⟨h9, (by rw [HV.out]; exact hVV.out), h⟩, decide_eq_true h, if_pos rfl]
          · rw [if_neg (fun h' => h h'.2.2), decide_eq_false h, if_neg (by decide)]
        clear hm hR
        generalize strOfNums P = sP at HSK hRm hT
        have HT := Lib.hid hT
        clear hT
        go_wp2_with fail
        refine hn79.mono ?_
        rintro e w2 ⟨rfl, rfl⟩
        clear hn79 hm79'
        have h0l : 0 < b.length := by omega
        have h0i : (0 : Int) < (b.length : Int) := by omega
        go_upto_region 4 with fail
        go_region_held3 (fun w' => w'.cell? ad = some (.int .u8 K) ∧ (convert 37 9 (.slice A9 m9 c9)).run Try.prog w' = .ok (.string sP) w')
          (first | exact HSK.out _ (below_drew (br _)) | exact HSK.out _ (ba (below_drew (br _)) _) | exact HSK.out _ (below4 (ba (below_drew (br _)) _) (by simp) _ _ _ _))
          (first
            | (go_at_call_of 61 (Value.slice A14 3 c14); refine (HN14.out _ (by first | exact HRB.out | exact HRB.out.below (ba (br _) _) | exact HRB.out.below (bd (ba (br _) _)))).mono ?_; rintro e w3 ⟨rfl, rfl⟩)
            | (go_at_call_of 61 (Value.slice A47 3 c47); refine (HN47.out _ (by first | exact HRB.out | exact HRB.out.below (ba (br _) _) | exact HRB.out.below (bd (ba (br _) _)))).mono ?_; rintro e w4 ⟨rfl, rfl⟩)
            | fail)
        all_goals
          go_wp2_with fail
          refine (HT.out _).mono ?_
          rintro e w5 ⟨rfl, hb5⟩
          have hlw : w.heap.size < w2.heap.size := blk_lt hx1
          have hx5 : w5.heap[w.heap.size]? = some (.cells #[.int .i64 0, .int .i64 0, .int .i64 0, .string ⟨#[]⟩] 44 (0, 0)) := (hb5.block _ (by simp; omega)).trans (blk_alloc hx1 _)
          have hp5 : w5.heap[w2.heap.size]? = some (.cells #[.int .i64 K, .int .i64 E, .int .i64 N, .string sP] 44 (0, 0)) := (hb5.block _ (by simp)).trans (heap_alloc_new w2 _)
          have hb5' : Below w.heap.size w w5 := bt (w1 := (w2.alloc (.cells #[.int .i64 K, .int .i64 E, .int .i64 N, .string sP] 44)).drew) (bd (ba hb _)) hb5
          have x0 : w5.cell? ⟨w.heap.size, 0, none⟩ = some (.int .i64 0) := blk_cell hx5 0
          have x1 : w5.cell? ⟨w.heap.size, 1, none⟩ = some (.int .i64 0) := blk_cell hx5 1
          have x2 : w5.cell? ⟨w.heap.size, 2, none⟩ = some (.int .i64 0) := blk_cell hx5 2
          have x3 : w5.cell? ⟨w.heap.size, 3, none⟩ = some (.string ⟨#[]⟩) := blk_cell hx5 3
          have g0 := blk_frozen hx5 0
          have g1 := blk_frozen hx5 1
          have g2 := blk_frozen hx5 2
          have g3 := blk_frozen hx5 3
          have p0 : w5.cell? ⟨w2.heap.size, 0, none⟩ = some (.int .i64 K) := blk_cell hp5 0
          have p1 : w5.cell? ⟨w2.heap.size, 1, none⟩ = some (.int .i64 E) := blk_cell hp5 1
          have p2 : w5.cell? ⟨w2.heap.size, 2, none⟩ = some (.int .i64 N) := blk_cell hp5 2
          have p3 : w5.cell? ⟨w2.heap.size, 3, none⟩ = some (.string sP) := blk_cell hp5 3
          clear z0 z1 z2 z3 f0 f1 f2 f3 hb5 hm9 hm14 hm47 heq hne2
          cases m with
          | true =>
            go_wp2
            exact bodyPost_ret (v := .tuple #[.agg #[.int .i64 K, .int .i64 E, .int .i64 N, .string sP], .int .i64 0]) (results_ct Try.results26 _ _ w.heap.size _ _ _ _ rfl (set4 hx5 _ _ _ _) Try.underlying44 rfl (by kernel_rfl)) rfl ⟨by rw [hRm.out]; rfl, below4 hb5' (Nat.le_refl _) _ _ _ _⟩
          | false =>
            go_wp2
            exact bodyPost_ret (v := .tuple #[.agg #[.int .i64 0, .int .i64 0, .int .i64 0, .string ⟨#[]⟩], .int .i64 260]) (results_ct Try.results26 _ _ w.heap.size _ _ _ _ rfl (set4 hx5 _ _ _ _) Try.underlying44 rfl (by kernel_rfl)) rfl ⟨by rw [hRm.out]; rfl, below4 hb5' (Nat.le_refl _) _ _ _ _⟩
      · have hne : decide ((V : Int) = (b.length : Int) - 9) = false := decide_eq_false (by omega)
        have hne2 : ((V : Int) != (b.length : Int) - 9) = true := bne_iff_ne.2 (by omega)
        have HN : Hid (R = .tuple #[.agg #[.int .i64 0, .int .i64 0, .int .i64 0, .string ⟨#[]⟩], .int .i64 260]) := by show R = _; rw [hR.out, if_neg (fun h => hVe (by rw [← HV.out]; exact h.2.1))]
        clear hVe
        go_wp2_with fail
        refine hn79.mono ?_
        rintro e w2 ⟨rfl, rfl⟩
        clear hn79 hm79'
        go_wp2
        exact bodyPost_ret (v := .tuple #[.agg #[.int .i64 0, .int .i64 0, .int .i64 0, .string ⟨#[]⟩], .int .i64 260]) (results_ct Try.results26 _ _ w.heap.size _ _ _ _ rfl (set4 hx1 _ _ _ _) Try.underlying44 rfl (by kernel_rfl)) rfl ⟨by rw [HN.out], below4 hb (Nat.le_refl _) _ _ _ _⟩
    · have HN : Hid (R = .tuple #[.agg #[.int .i64 0, .int .i64 0, .int .i64 0, .string ⟨#[]⟩], .int .i64 260]) := by show R = _; rw [hR.out, if_neg (fun h => h9 h.1)]
      go_wp2
      exact bodyPost_ret (v := .tuple #[.agg #[.int .i64 0, .int .i64 0, .int .i64 0, .string ⟨#[]⟩], .int .i64 260]) (results_ct Try.results26 _ _ w.heap.size _ _ _ _ rfl (set4 hx1 _ _ _ _) Try.underlying44 rfl (by kernel_rfl)) rfl ⟨by rw [HN.out], below4 hb (Nat.le_refl _) _ _ _ _⟩
  · exact absurd H.out hf
end Go.Proofs.Ytcjnfdhdcoobgaa.Pdu
