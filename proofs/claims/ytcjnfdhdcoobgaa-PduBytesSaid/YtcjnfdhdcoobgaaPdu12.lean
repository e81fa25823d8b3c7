/- What both Parses answer; the walk of the statement PduBytes. -/
import Derived.Test.YtcjnfdhdcoobgaaPdu11
import Derived.Test.YtcjnfdhdcoobgaaPdu7
set_option linter.unusedVariables false
set_option linter.unusedSimpArgs false
namespace Go.Proofs.Ytcjnfdhdcoobgaa.Pdu
open Go.RowKit Go.Proofs.YtcjnfdhdcoobgaaW.PrintWords Go.Proofs.YtcjnfdhdcoobgaaW.PrintLast Go.Proofs.YtcjnfdhdcoobgaaW.PrintMore Go.Proofs.Ytcjnfdhdcoobgaa.Chk

theorem list9 (b : List Int) (h : 9 ≤ b.length) : ∃ b0 b1 b2 b3 b4 b5 b6 b7 b8 P, b = b0 :: b1 :: b2 :: b3 :: b4 :: b5 :: b6 :: b7 :: b8 :: P := by
  rcases b with _ | ⟨b0, _ | ⟨b1, _ | ⟨b2, _ | ⟨b3, _ | ⟨b4, _ | ⟨b5, _ | ⟨b6, _ | ⟨b7, _ | ⟨b8, P⟩⟩⟩⟩⟩⟩⟩⟩⟩
  iterate 9 (simp at h)
  exact ⟨b0, b1, b2, b3, b4, b5, b6, b7, b8, P, rfl⟩
theorem body_back (b : List Int) (hB : Bytes b) (h9 : 9 ≤ b.length) (K E N : Int) (P : List Int) (hp : (K, E, N, P) = parts b) (hv : valN ((b.take 9).drop 7) 2 = b.length - 9) : bodyL K E N P = b := by
  obtain ⟨b0, b1, b2, b3, b4, b5, b6, b7, b8, Q, rfl⟩ := list9 b h9
  have c0 := hB b0 (by simp)
  have c1 := hB b1 (by simp)
  have c2 := hB b2 (by simp)
  have c3 := hB b3 (by simp)
  have c4 := hB b4 (by simp)
  have c5 := hB b5 (by simp)
  have c6 := hB b6 (by simp)
  have c7 := hB b7 (by simp)
  have c8 := hB b8 (by simp)
  change (K, E, N, P) = (b0, ((valN [b1, b2, b3] 3 : Nat) : Int), ((valN [b4, b5, b6] 3 : Nat) : Int), Q) at hp
  rw [valN3 _ _ _ c1.1 c2.1 c3.1, valN3 _ _ _ c4.1 c5.1 c6.1] at hp
  simp only [Prod.mk.injEq] at hp
  obtain ⟨rfl, rfl, rfl, rfl⟩ := hp
  change valN [b7, b8] 2 = _ at hv
  have e7 := valN2 b7 b8 c7.1 c8.1
  rw [hv] at e7
  have hl : (K :: b1 :: b2 :: b3 :: b4 :: b5 :: b6 :: b7 :: b8 :: P).length - 9 = P.length := by simp only [List.length_cons]; omega
  rw [hl] at e7
  rw [body_cons]
  simp only [List.cons.injEq, true_and, and_true]
  refine ⟨?_, ?_, ?_, ?_, ?_, ?_, ?_, ?_⟩ <;> omega
theorem pdu_iff (M : List Int) (hM : Bytes M) (h12 : 12 ≤ M.length) (K E N : Int) (P : List Int) (hp : (K, E, N, P) = parts (M.take (M.length - 3))) :
    (fits 24 5592405 1627 M ∧ 9 ≤ (M.take (M.length - 3)).length ∧ valN (((M.take (M.length - 3)).take 9).drop 7) 2 = (M.take (M.length - 3)).length - 9 ∧ May K E N P) ↔ (May K E N P ∧ sealL (bodyL K E N P) = M) := by
  constructor
  · rintro ⟨hf, h9, hv, hm⟩
    refine ⟨hm, ?_⟩
    rw [body_back _ (hM.take _) h9 K E N P hp hv]
    have hl : (M.take (M.length - 3)).length = M.length - 3 := by rw [List.length_take]; omega
    unfold sealL
    rw [hl, sumN_take _ _ _ _ _ (by omega)]
    have h2 := hf.2
    rw [show 24 / 8 = 3 from rfl] at h2
    rw [h2, List.take_append_drop]
  · rintro ⟨hm, he⟩
    obtain ⟨h1, h2⟩ := seal_fits (bodyL K E N P)
    rw [he] at h1 h2
    rw [h2]
    refine ⟨h1, by rw [body_length]; omega, body_num K E N P hm.2.2.2.2.2.2, hm⟩
theorem parse_any (A : Option Addr) (n c : Nat) (M : List Int) (W : World) (hl : M.length ≤ 4096) (hc : M.length ≤ c) (hB : Bytes M) (hr : ReadsInt W .u8 A n M) (h12 : 12 ≤ M.length) (K E N : Int) (P : List Int) (hp : (K, E, N, P) = parts (M.take (M.length - 3))) :
    Calls Try.prog 26 #[.slice A n c] W fun e w' => e = .returned (if May K E N P ∧ sealL (bodyL K E N P) = M then .tuple #[.agg #[.int .i64 K, .int .i64 E, .int .i64 N, .string (strOfNums P)], .int .i64 0] else .tuple #[.agg #[.int .i64 0, .int .i64 0, .int .i64 0, .string ⟨#[]⟩], .int .i64 260]) ∧ Below W.heap.size W w' := by
  have hi := pdu_iff M hB h12 K E N P hp
  by_cases hf : fits 24 5592405 1627 M
  · have h := parse_fit A n c M W hl hc hB hr hf _ rfl K E N P hp
    refine h.mono ?_
    rintro e w' ⟨rfl, hb⟩
    refine ⟨?_, hb⟩
    by_cases ho : May K E N P ∧ sealL (bodyL K E N P) = M
    · rw [if_pos ho, if_pos (hi.2 ho).2]
    · rw [if_neg ho, if_neg (fun h => ho (hi.1 ⟨hf, h⟩))]
  · have h := parse_no A n c M W hl hc hB hr hf
    rw [if_neg (fun h => hf (hi.2 h).1)]
    exact h
theorem parse_short (A : Option Addr) (n c : Nat) (M : List Int) (W : World) (hc : M.length ≤ c) (hB : Bytes M) (hr : ReadsInt W .u8 A n M) (h12 : M.length < 12) :
    Calls Try.prog 26 #[.slice A n c] W fun e w' => e = .returned (.tuple #[.agg #[.int .i64 0, .int .i64 0, .int .i64 0, .string ⟨#[]⟩], .int .i64 260]) ∧ Below W.heap.size W w' := by
  by_cases hf : fits 24 5592405 1627 M
  · have h3 := hf.1
    have h := parse_fit A n c M W (by omega) hc hB hr hf _ rfl _ _ _ _ rfl
    rw [if_neg (fun h => by have := h.1; rw [List.length_take] at this; omega)] at h
    exact h
  · exact parse_no A n c M W (by omega) hc hB hr hf
set_option maxRecDepth 100000 in
set_option maxHeartbeats 1000000 in
theorem rparse_short (s : ByteArray) (w : World) (h12 : s.size < 12) :
    Calls Try.prog 27 #[.string s] w fun e w' => e = .returned (.tuple #[.agg #[.int .i64 0, .int .i64 0, .int .i64 0, .string ⟨#[]⟩], .bool false]) ∧ Below w.heap.size w w' := by
  go_enter Try.func27, Try.ntmps27
  go_wp2
  exact bodyPost_ret (v := .tuple #[.agg #[.int .i64 0, .int .i64 0, .int .i64 0, .string ⟨#[]⟩], .bool false]) (results_ct Try.results27 _ _ w.heap.size _ _ _ _ rfl (heap_alloc_new w _) Try.underlying41 rfl (by kernel_rfl)) rfl ⟨rfl, ba (br w) _⟩

theorem bytes_both (K E N : Int) (s : ByteArray) (hs : s.size ≤ 2000) : ∃ (X : ByteArray) (er : Int), 0 ≤ er ∧ er ≤ 1 ∧
    Hid (∀ W, Calls Try.prog 24 #[.agg #[.int .i64 K, .int .i64 E, .int .i64 N, .string s]] W fun e w' => ∃ v, e = .returned (.tuple #[v, .int .i64 er]) ∧ Below W.heap.size W w' ∧ ∀ W2, Below w'.heap.size w' W2 → (convert 37 9 v).run Try.prog W2 = .ok (.string X) W2) ∧
    Hid (∀ W, Calls Try.prog 25 #[.agg #[.int .i64 K, .int .i64 E, .int .i64 N, .string s]] W fun e w' => e = .returned (.tuple #[.string X, .int .i64 er]) ∧ Below W.heap.size W w') := by
  have hst := str_bytesOf s
  have hlen := bytesOf_length s
  have hB := bytesOf_byte s
  by_cases hM : May K E N (bytesOf s)
  · refine ⟨strOfNums (sealL (bodyL K E N (bytesOf s))), 0, by omega, by omega, fun W => ?_, fun W => ?_⟩
    · have h := bytes_yes K E N (bytesOf s) W hB hM
      rw [hst] at h
      refine h.mono ?_
      rintro e w' ⟨v, rfl, hown, hb⟩
      exact ⟨v, rfl, hb, fun W2 h2 => conv_own (pw_own_below hown h2)⟩
    · have h := rbytes_yes K E N (bytesOf s) W hB hM
      rw [hst] at h
      exact h
  · refine ⟨⟨#[]⟩, 1, by omega, by omega, fun W => ?_, fun W => ?_⟩
    · have h := bytes_no K E N (bytesOf s) W (by omega) hM
      rw [hst] at h
      refine h.mono ?_
      rintro e w' ⟨rfl, hb⟩
      exact ⟨_, rfl, hb, fun W2 h2 => conv_nil W2 0⟩
    · have h := rbytes_no K E N (bytesOf s) W (by omega) hM
      rw [hst] at h
      exact h
theorem parse_both (s : ByteArray) (hs : s.size ≤ 2000) : ∃ (K E N : Int) (t : ByteArray) (er : Int) (ok : Bool), (er = 0 ∧ ok = true ∨ er = 260 ∧ ok = false) ∧
    Hid (∀ (A : Option Addr) (c : Nat) W, s.size ≤ c → ReadsInt W .u8 A s.size (bytesOf s) → Calls Try.prog 26 #[.slice A s.size c] W fun e w' => e = .returned (.tuple #[.agg #[.int .i64 K, .int .i64 E, .int .i64 N, .string t], .int .i64 er]) ∧ Below W.heap.size W w') ∧
    Hid (∀ W, Calls Try.prog 27 #[.string s] W fun e w' => e = .returned (.tuple #[.agg #[.int .i64 K, .int .i64 E, .int .i64 N, .string t], .bool ok]) ∧ Below W.heap.size W w') := by
  have hlen := bytesOf_length s
  have hB := bytesOf_byte s
  by_cases h12 : 12 ≤ s.size
  · obtain ⟨K, E, N, P, hp⟩ : ∃ K E N P, (K, E, N, P) = parts ((bytesOf s).take ((bytesOf s).length - 3)) := ⟨_, _, _, _, rfl⟩
    have h1 := fun A c W (hc : s.size ≤ c) (hr : ReadsInt W .u8 A s.size (bytesOf s)) => parse_any A s.size c (bytesOf s) W (by omega) (by omega) hB hr (by omega) K E N P hp
    have h2 := fun W => rparse_long s (bytesOf s) rfl W hs h12 K E N P hp
    by_cases ho : May K E N P ∧ sealL (bodyL K E N P) = bytesOf s
    · simp only [if_pos ho] at h1 h2
      exact ⟨K, E, N, strOfNums P, 0, true, .inl ⟨rfl, rfl⟩, h1, h2⟩
    · simp only [if_neg ho] at h1 h2
      exact ⟨0, 0, 0, ⟨#[]⟩, 260, false, .inr ⟨rfl, rfl⟩, h1, h2⟩
  · exact ⟨0, 0, 0, ⟨#[]⟩, 260, false, .inr ⟨rfl, rfl⟩, fun A c W hc hr => parse_short A s.size c (bytesOf s) W (by omega) hB hr (by omega), fun W => rparse_short s W (by omega)⟩

set_option maxRecDepth 100000 in
set_option maxHeartbeats 2000000 in
theorem bytes_walk (K E N : Int) (p s : ByteArray) (w : World) : Calls Try.prog 4 #[.agg #[.int .i64 K, .int .i64 E, .int .i64 N, .string p], .string s] w fun e w' => e = .returned (.bool true) ∧ Below w.heap.size w w' := by
  have kb := fun W : World => print_bytes (P := Try.prog) 9 37 5 Try.underlying9 Try.underlying37 Try.underlying5 s W
  have hlen := bytesOf_length s
  go_enter Try.func4, Try.ntmps4
  go_wp2_with fail
  refine (alive _).mono ?_
  rintro e w1 ⟨rfl, hb1⟩
  have hx1 : w1.heap[w.heap.size]? = some (.cells #[.int .i64 K, .int .i64 E, .int .i64 N, .string p] 41 (0, 0)) := (hb1.block _ (by simp)).trans (heap_alloc_new w _)
  have hb1' : Below w.heap.size w w1 := bt (ba (br w) _) hb1
  have z0 : w1.cell? ⟨w.heap.size, 0, none⟩ = some (.int .i64 K) := blk_cell hx1 0
  have z1 : w1.cell? ⟨w.heap.size, 1, none⟩ = some (.int .i64 E) := blk_cell hx1 1
  have z2 : w1.cell? ⟨w.heap.size, 2, none⟩ = some (.int .i64 N) := blk_cell hx1 2
  have z3 : w1.cell? ⟨w.heap.size, 3, none⟩ = some (.string p) := blk_cell hx1 3
  by_cases hl : p.size ≤ 2000
  · by_cases hl2 : s.size ≤ 2000
    · obtain ⟨X, er, e0, e1, HB, HR⟩ := bytes_both K E N p hl
      obtain ⟨K2, E2, N2, t, er2, ok, hcase, HP, HQ⟩ := parse_both s hl2
      go_wp2_with fail
      refine (HB.out _).mono ?_
      rintro e w2 ⟨v, rfl, hb2, hcv⟩
      have HCV := Lib.hid hcv
      have hb2' := bt hb1' hb2
      have hx2 := (hb2.block _ (blk_lt hx1)).trans hx1
      have q0 := blk_cell hx2 0
      have q1 := blk_cell hx2 1
      have q2 := blk_cell hx2 2
      have q3 := blk_cell hx2 3
      clear hcv z0 z1 z2 z3 hx2
      go_wp2_with fail
      refine (HR.out _).mono ?_
      rintro e w3 ⟨rfl, hb3⟩
      have hb3' := bt hb2' hb3
      replace kb := kb w3
      have hbx := bytes_below (br w3) (Nat.le_refl _) 5 s
      have hrx := (BRow.of w3 s).reads (by omega)
      rw [hlen] at hrx
      generalize Lib.bytesWorld w3 5 s = wx at kb hbx hrx
      have hgc : s.size ≤ grownCap w3 s.size 0 5 := grownCap_ge w3 s.size 0 5
      generalize grownCap w3 s.size 0 5 = c5 at kb hgc
      have HGC := Lib.hid hgc
      clear hgc q0 q1 q2 q3
      go_wp2_with fail
      refine (HP.out _ _ _ HGC.out hrx).mono ?_
      rintro e w5 ⟨rfl, hb5⟩
      have hbx' := bt hb3 hbx
      have hb5' := bt hbx' hb5
      clear kb hrx hb5 hbx hbx' hb3
      have hy0 := heap_alloc_new w5 (.cells #[.int .i64 K2, .int .i64 E2, .int .i64 N2, .string t] 44)
      go_wp2_with fail
      refine (HQ.out _).mono ?_
      rintro e w6 ⟨rfl, hb6⟩
      have hy6 := (hb6.block _ (blk_lt hy0)).trans hy0
      have hb6' := bt (ba hb5' _) hb6
      have hr := blk_alloc hy6 (.cells #[.int .i64 K2, .int .i64 E2, .int .i64 N2, .string t] 41)
      have r0 := blk_cell hr 0
      have r1 := blk_cell hr 1
      have r2 := blk_cell hr 2
      have r3 := blk_cell hr 3
      have hbz := ba hb6' (.cells #[.int .i64 K2, .int .i64 E2, .int .i64 N2, .string t] 41)
      have hcz := HCV.out _ hbz
      have HBZ := Lib.hid (bt hb2' hbz)
      clear hr hy6 hb6' hb6 hy0 hb5' hb3' hbz hb2 hb2'
      rcases hcase with ⟨rfl, rfl⟩ | ⟨rfl, rfl⟩
      all_goals
        go_wp2
        go_ret
        exact ⟨rfl, HBZ.out⟩
    · go_wp2
      go_ret
      exact ⟨rfl, hb1'⟩
  · go_wp2
    go_ret
    exact ⟨rfl, hb1'⟩
end Go.Proofs.Ytcjnfdhdcoobgaa.Pdu
