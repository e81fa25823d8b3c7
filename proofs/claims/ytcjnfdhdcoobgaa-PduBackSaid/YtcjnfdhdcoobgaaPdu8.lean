/- The walk of the statement PduBack. -/
import Derived.Test.YtcjnfdhdcoobgaaPdu7
import Derived.Test.YtcjnfdhdcoobgaaPduP
set_option linter.unusedVariables false
set_option linter.unusedSimpArgs false
namespace Go.Proofs.Ytcjnfdhdcoobgaa.Pdu
open Go.RowKit Go.Proofs.YtcjnfdhdcoobgaaW.PrintWords Go.Proofs.YtcjnfdhdcoobgaaW.PrintLast Go.Proofs.YtcjnfdhdcoobgaaW.PrintMore Go.Proofs.Ytcjnfdhdcoobgaa.Chk

set_option maxRecDepth 100000 in
set_option maxHeartbeats 2000000 in
theorem back_walk (K E N : Int) (s : ByteArray) (a : Int) (m : Nat) (hm : m < 2 ^ 32) (w : World) : Calls Try.prog 6 #[.agg #[.int .i64 K, .int .i64 E, .int .i64 N, .string s], .int .i64 a, .int .u32 m] w fun e w' => e = .returned (.bool true) ∧ Below w.heap.size w w' := by
  obtain ⟨L, hL⟩ : ∃ L, L = bytesOf s := ⟨_, rfl⟩
  have hB : Bytes L := by rw [hL]; exact bytesOf_byte s
  have hlen : L.length = s.size := by rw [hL]; exact bytesOf_length s
  have hst : strOfNums L = s := by rw [hL]; exact str_bytesOf s
  clear hL
  go_enter Try.func6, Try.ntmps6
  go_wp2_with fail
  refine (alive _).mono ?_
  rintro e w1 ⟨rfl, hb1⟩
  have hx1 : w1.heap[w.heap.size]? = some (.cells #[.int .i64 K, .int .i64 E, .int .i64 N, .string s] 41 (0, 0)) := (hb1.block _ (by simp)).trans (heap_alloc_new w _)
  have hb1' : Below w.heap.size w w1 := bt (ba (br w) _) hb1
  have z0 : w1.cell? ⟨w.heap.size, 0, none⟩ = some (.int .i64 K) := blk_cell hx1 0
  have z1 : w1.cell? ⟨w.heap.size, 1, none⟩ = some (.int .i64 E) := blk_cell hx1 1
  have z2 : w1.cell? ⟨w.heap.size, 2, none⟩ = some (.int .i64 N) := blk_cell hx1 2
  have z3 : w1.cell? ⟨w.heap.size, 3, none⟩ = some (.string s) := blk_cell hx1 3
  by_cases hl : s.size ≤ 2000
  · by_cases hM : May K E N L
    · have hM5 : L.length ≤ 512 := hM.2.2.2.2.2.2
      obtain ⟨M, hMd⟩ : ∃ M, M = sealL (bodyL K E N L) := ⟨_, rfl⟩
      have hMB : Bytes M := by
        rw [hMd]
        refine seal_byte (body_byte K E N L ?_ hB)
        have := hM.1; omega
      obtain ⟨hf, ht⟩ : fits 24 5592405 1627 M ∧ M.take (M.length - 3) = bodyL K E N L := by rw [hMd]; exact seal_fits _
      have hMl : M.length = L.length + 12 := by rw [hMd, seal_length, body_length]; omega
      have HB := fun W => bytes_yes K E N L W hB hM
      rw [hst, ← hMd] at HB
      have HP : Hid (∀ (g c : Nat) W, M.length ≤ c → ReadsInt W .u8 (some ⟨g, 0, none⟩) M.length M → Calls Try.prog 26 #[.slice (some ⟨g, 0, none⟩) M.length c] W fun e w' => e = .returned (.tuple #[.agg #[.int .i64 K, .int .i64 E, .int .i64 N, .string s], .int .i64 0]) ∧ Below W.heap.size W w') := by
        intro g c W hc hr
        have h := parse_fit (some ⟨g, 0, none⟩) M.length c M W (by omega) hc hMB hr hf (bodyL K E N L) ht.symm K E N L (body_parts K E N L hM)
        rw [if_pos ⟨by rw [body_length]; omega, body_num K E N L hM5, hM⟩, hst] at h
        exact h
      have HS : Hid (∀ (g c : Nat) W, ReadsInt W .u8 (some ⟨g, 0, none⟩) M.length M → Calls Try.prog 28 #[.slice (some ⟨g, 0, none⟩) M.length c, .int .i64 a, .int .u32 m] W (Row8 (spoil M a m) W)) := fun g c W hr => spoil_any _ _ c M a m W (by omega) hMB hm hr
      have HS2 : Hid (∀ (g c : Nat) W, ReadsInt W .u8 (some ⟨g, 0, none⟩) M.length (spoil M a m) → Calls Try.prog 28 #[.slice (some ⟨g, 0, none⟩) M.length c, .int .i64 a, .int .u32 m] W (Row8 M W)) := fun g c W hr => by
        have h := spoil_any (some ⟨g, 0, none⟩) M.length c (spoil M a m) a m W (by rw [spoil_length]; omega) (spoil_byte hMB a m) hm hr
        rw [spoil_twice hMB] at h
        exact h
      have HZ : Hid (m % 16777216 = 0 → spoil M a m = M) := spoil_none M a m
      have HP2 : Hid (¬ m % 16777216 = 0 → ∀ (g c : Nat) W, M.length ≤ c → ReadsInt W .u8 (some ⟨g, 0, none⟩) M.length (spoil M a m) → Calls Try.prog 26 #[.slice (some ⟨g, 0, none⟩) M.length c] W fun e w' => e = .returned (.tuple #[.agg #[.int .i64 0, .int .i64 0, .int .i64 0, .string ⟨#[]⟩], .int .i64 260]) ∧ Below W.heap.size W w') := fun hz g c W hc hr =>
        parse_no (some ⟨g, 0, none⟩) M.length c (spoil M a m) W (by rw [spoil_length]; omega) (by rw [spoil_length]; omega) (spoil_byte hMB a m) hr (fun h => hz ((spoil_fits hMB hf a m).1 h))
      have hS : (spoil M a m).length = M.length := spoil_length M a m
      have hM0 : 0 < M.length := by omega
      clear hf ht hMd hMl hMB hM hM5 hB
      generalize spoil M a m = M2 at HS HS2 HZ HP2 hS
      go_wp2_with fail
      refine (HB _).mono ?_
      rintro e w2 ⟨v, rfl, hown, hb2⟩
      obtain ⟨A, c, e1, hr⟩ := own_reads hown
      obtain ⟨g, c', rfl, hc, hg⟩ := own_pos hown hM0
      simp only [Value.slice.injEq] at e1
      obtain ⟨rfl, -, rfl⟩ := e1
      have HC := Lib.hid hc
      clear hc hown
      have hb2' := bt hb1' hb2
      have hx2 := (hb2.block _ (blk_lt hx1)).trans hx1
      clear z0 z1 z2 z3
      go_wp2_with fail
      refine (HP.out g c' _ HC.out hr).mono ?_
      rintro e w3 ⟨rfl, hb3⟩
      have hb3' := bt hb2' hb3
      have hr3 := hr.below hb3
      have hx3 := (hb3.block _ (blk_lt hx2)).trans hx2
      clear hr hx2 hx1
      obtain ⟨w4, hw4⟩ : ∃ w4 : World, w4 = w3.alloc (.cells #[.int .i64 K, .int .i64 E, .int .i64 N, .string s] 44) := ⟨_, rfl⟩
      have hx4 : w4.heap[w.heap.size]? = some (.cells #[.int .i64 K, .int .i64 E, .int .i64 N, .string s] 41 (0, 0)) := by rw [hw4]; exact blk_alloc hx3 _
      have z0 := blk_cell hx4 0
      have z1 := blk_cell hx4 1
      have z2 := blk_cell hx4 2
      have z3 := blk_cell hx4 3
      rw [hw4] at z0 z1 z2 z3
      have hb4 : Below w.heap.size w w4 := by rw [hw4]; exact ba hb3' _
      have hr4 : ReadsInt w4 .u8 (some ⟨g, 0, none⟩) M.length M := by rw [hw4]; exact hr3.below (ba (br _) _)
      have HW := Lib.hid hw4
      clear hw4 hr3 hx3 hx4
      go_wp2_with fail
      rw [← HW.out]
      clear HW z0 z1 z2 z3
      refine (HS.out g c' _ hr4).mono ?_
      rintro e w5 ⟨v5, rfl, hown5, hb5⟩
      have hr5 := hr4.below hb5
      have hb5' := bt hb4 hb5
      rw [hS] at hown5
      obtain ⟨A, c, e1, hq5⟩ := own_reads hown5
      obtain ⟨g5, c5, rfl, hc5, hg5⟩ := own_pos hown5 hM0
      simp only [Value.slice.injEq] at e1
      obtain ⟨rfl, -, rfl⟩ := e1
      have HC5 := Lib.hid hc5
      have HP3 : ∃ (K2 E2 N2 er : Int) (s2 : ByteArray), (er = 0 ∧ ((m : Int) % 16777216 == 0) = true ∨ er = 260 ∧ ((m : Int) % 16777216 == 0) = false) ∧ Hid (Calls Try.prog 26 #[.slice (some ⟨g5, 0, none⟩) M.length c5] w5 fun e w' => e = .returned (.tuple #[.agg #[.int .i64 K2, .int .i64 E2, .int .i64 N2, .string s2], .int .i64 er]) ∧ Below w5.heap.size w5 w') := by
        by_cases hz : m % 16777216 = 0
        · have hq' : ReadsInt w5 .u8 (some ⟨g5, 0, none⟩) M.length M := by rw [HZ.out hz] at hq5; exact hq5
          exact ⟨K, E, N, 0, s, .inl ⟨rfl, by rw [beq_iff_eq]; omega⟩, HP.out g5 c5 w5 hc5 hq'⟩
        · exact ⟨0, 0, 0, 260, ⟨#[]⟩, .inr ⟨rfl, by rw [beq_eq_false_iff_ne]; omega⟩, HP2.out hz g5 c5 w5 hc5 hq5⟩
      obtain ⟨K2, E2, N2, er, s2, ⟨rfl, d2⟩ | ⟨rfl, d2⟩, HP3⟩ := HP3
      all_goals
        clear HP HP2 HZ HS hown5 HB hc5 hr4 hb4 hb2' hb3' hb2 hb3
        go_wp2_with fail
        refine HP3.out.mono ?_
        rintro e w6 ⟨rfl, hb6⟩
        have HC1 : Hid (∀ W, Below w6.heap.size w6 W → (convert 37 9 (.slice (some ⟨g, 0, none⟩) M.length c')).run Try.prog W = .ok (.string (strOfNums M)) W) := fun W h =>
          string_of_reads (P := Try.prog) (dst := 9) Try.underlying37 Try.underlying5 Try.underlying9 ((hr5.below hb6).below h)
        have HR6 := Lib.hid (hq5.below hb6)
        have HB6 := Lib.hid (bt hb5' hb6)
        clear hq5 hr5 hb5' hb5 hb6 HP3
        have HSM : Hid (∃ sM, sM = strOfNums M) := ⟨_, rfl⟩
        obtain ⟨sM, hsM⟩ := HSM.out
        rw [← hsM] at HC1
        have HSM := Lib.hid hsM
        clear hsM
        go_upto_region 9 with fail
        have HCd := HC1.out _ (below_drew (ba (br w6) (.cells #[.int .i64 K2, .int .i64 E2, .int .i64 N2, .string s2] 44)))
        go_region_with
          (first
            | (go_at_call 28; refine (HS2.out g5 c5 _ (HR6.out.below (below_drew (ba (br _) _)))).mono ?_; rintro e w7 ⟨v7, rfl, hown7, hb7⟩; obtain ⟨A7, c7, rfl, hq7⟩ := own_reads hown7; have hb7' := bt (below_drew (ba (br w6) _)) hb7; have HC7 := HC1.out _ hb7'; have HD7 := string_of_reads (P := Try.prog) (c := c7) (dst := 9) Try.underlying37 Try.underlying5 Try.underlying9 hq7; rw [← HSM.out] at HD7)
            | fail)
        all_goals
          go_wp2
          go_ret
          exact ⟨rfl, bt HB6.out hb7'⟩
    · have HN := fun W => bytes_no K E N L W (by omega) hM
      rw [hst] at HN
      clear hM
      go_wp2_with fail
      refine (HN _).mono ?_
      rintro e w2 ⟨rfl, hb2⟩
      go_wp2
      go_ret
      exact ⟨rfl, bt hb1' hb2⟩
  · go_wp2
    go_ret
    exact ⟨rfl, hb1'⟩
theorem back_of (K E N : Int) (s : ByteArray) (a m : Int) (hm : (Lit.int .u32 m).wf = true) (w : World) : Calls Try.prog 6 #[.agg #[.int .i64 K, .int .i64 E, .int .i64 N, .string s], .int .i64 a, .int .u32 m] w fun e w' => e = .returned (.bool true) ∧ Below w.heap.size w w' := by
  have h : 0 ≤ m ∧ m ≤ 4294967295 := by simpa [Lit.wf, IntKind.min, IntKind.max, IntKind.signed, IntKind.bits] using hm
  obtain ⟨m, rfl⟩ := Int.eq_ofNat_of_zero_le h.1
  exact back_walk K E N s a m (by omega) w
end Go.Proofs.Ytcjnfdhdcoobgaa.Pdu
