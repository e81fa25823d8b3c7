/- The walk of the package arith: narrow. -/
import Derived.Test.YtikjolinendfgaaAr1
set_option linter.unusedVariables false
set_option linter.unusedSimpArgs false
namespace Go.Proofs.Ytikjolinendfgaa.Ari
open Go.RowKit Go.Proofs.YtikjolinendfgaaW.PrintWords Go.Proofs.YtikjolinendfgaaW.PrintLast Go.Proofs.YtikjolinendfgaaW.PrintMore

theorem sizeI : ∃ i, Try.prog.info? 3 = some i ∧ i.size = 1 := by
  have h : (Try.prog.info? 3).map (fun i => (i.zero, i.size, i.bytes)) = some (some (.int .i64 0), 1, 8) := by kernel_rfl
  obtain ⟨i0, hi, hzz⟩ := Option.map_eq_some_iff.1 h
  simp only [Prod.mk.injEq] at hzz
  exact ⟨i0, hi, hzz.2.1⟩
theorem cutI (A : Option Addr) (c : Nat) (t : List Int) (b : Int) (h0 : 0 ≤ b) (hb : b ≤ t.length) (hc : t.length ≤ c) :
    (∀ W : World, (Instr.slice 29 (.slice A t.length c) none (some (.int .i64 b)) none).run Try.prog W = .ok (.slice A b.toNat c) W) ∧
      ∀ w : World, ReadsInt w .i64 A t.length t → ReadsInt w .i64 A b.toNat (t.take b.toNat) := by
  obtain ⟨i, hi, hs⟩ := sizeI
  obtain ⟨h1, h2, h3⟩ := print_take_int (P := Try.prog) (k := .i64) 29 3 Try.underlying29 hi hs A c t b h0 hb hc
  have hl : (t.take b.toNat).length = b.toNat := by rw [List.length_take]; omega
  rw [hl] at h1 h2
  exact ⟨h1, h2⟩
theorem div_i64 (a n : Nat) (hn : 0 < n) (h : a < 9000000000000000000) : IntKind.i64.wrap ((a : Int).tdiv n) = ((a / n : Nat) : Int) := by
  rw [Int.tdiv_eq_ediv_of_nonneg (by omega)]
  have h2 : a / n ≤ a := Nat.div_le_self _ _
  rw [← Int.natCast_ediv]
  exact IntWalk.i64_in _ (by generalize a / n = q at *; omega)

set_option maxRecDepth 100000 in
set_option maxHeartbeats 2000000 in
theorem narrow_any (g lo wd : Nat) (A : Option Addr) (n c : Nat) (t : List Int) (s : Nat) (w : World) (h : SpanAt w g lo wd) (hl : lo + wd ≤ 65536) (h1 : 1 ≤ wd) (hr : ReadsInt w .i64 A n t) (hc : n ≤ c) (hg : Good t) (hs : s < t.length)
    (F T N : Nat) (hF : (t.take s).sum = F) (hT : (t.take (s + 1)).sum = T) (hN : t.sum = N) (hfar : ∀ ad, A = some ad → ad.block ≠ g) :
    Calls Try.prog 42 #[.pointer (some ⟨g, 0, none⟩), .slice A n c, .int .i64 s, .int .i64 N] w fun e w' => e = .returned (.tuple #[]) ∧ ∃ k, w' = ((w.drewN k).setCell ⟨g, 1, none⟩ (.int .i64 ((lo : Int) + ((wd * T / N : Nat) : Int) - 1))).setCell ⟨g, 0, none⟩ (.int .i64 ((lo + wd * F / N : Nat) : Int)) := by
  obtain rfl := hr.1
  obtain ⟨q1, q2⟩ := cutI A c t (s : Int) (by omega) (by omega) hc
  rw [Int.toNat_natCast] at q1 q2
  have hq := q2 w hr
  have hin := total_in hg
  have HPR := Lib.hid (fun i (hi : i < t.length) => hg.pre i hi)
  have HTS := Lib.hid (fun i (hi : i < t.length) => sum_take_succ t i hi)
  have HSP := Lib.hid h
  have hN1 : 2 ≤ N ∧ N ≤ 4096 := by omega
  have HFT := Lib.hid (And.intro hF (And.intro hT hN))
  have HQ := Lib.hid hq
  have HR := Lib.hid hr
  have htl := hg.2.1
  clear q2 hq hin hF hT hN h hg
  go_enter Try.func42, Try.ntmps42
  go_wp2
  go_loopg [8, 17] s (fun gk x y W => ∃ (i : Nat) (S : Nat), i ≤ s ∧ gk = s - i ∧ y = .int .i64 i ∧ x = .int .i64 S ∧ S ≤ 4096 ∧ Hid ((t.take i).sum = S) ∧ W = w)
  case atStart => exact ⟨0, 0, by omega, rfl, rfl, rfl, by omega, by show (t.take 0).sum = _; simp, rfl⟩
  case round =>
    obtain ⟨i, S, hi, rfl, rfl, rfl, hS, HS, rfl⟩ := hrel
    by_cases hlt : i < s
    · obtain ⟨ad, rfl, y⟩ := HQ.out.at_ (i : Int) (by omega) (by omega)
      rw [Int.toNat_natCast] at y
      have e1 : rd (t.take s) (i : Int) = rd t (i : Int) := by
        unfold rd
        rw [Int.toNat_natCast, List.getD_eq_getElem?_getD, List.getD_eq_getElem?_getD, List.getElem?_take, if_pos hlt]
      rw [e1] at y
      obtain ⟨p1, p2⟩ := HPR.out i (by omega)
      have HT2 := Lib.hid (HTS.out i (by omega))
      rw [HS.out] at p2
      obtain ⟨x, hx⟩ := Int.eq_ofNat_of_zero_le (show 0 ≤ rd t (i : Int) by omega)
      rw [hx] at y p1 p2 HT2
      clear hx e1
      go_wp2
      go_roundg (s - (i + 1))
      case measure => omega
      case rel => exact ⟨i + 1, S + x, by omega, rfl, by go_num, by go_num, by omega, by show (t.take (i + 1)).sum = _; rw [HT2.out, HS.out]; omega, rfl⟩
    · obtain rfl : i = s := by omega
      obtain rfl : S = F := by have := HS.out; have := HFT.out.1; omega
      obtain ⟨ad, rfl, y⟩ := HR.out.at_ (i : Int) (by omega) (by omega)
      rw [Int.toNat_natCast] at y
      obtain ⟨p1, p2⟩ := HPR.out i hs
      have hT2 := HTS.out i hs
      obtain ⟨x, hx⟩ := Int.eq_ofNat_of_zero_le (show 0 ≤ rd t (i : Int) by omega)
      rw [hx] at y
      have hTe : T = S + x := by have := HFT.out.1; have := HFT.out.2.1; omega
      have hTN : T ≤ 4096 := by have := HFT.out.1; omega
      subst hTe
      have HW := Lib.hid (fun i => width_any g lo wd (wr.drewN i) HSP.out hl h1)
      have b1 : wd * (S + x) / N ≤ wd := Nat.div_le_of_le_mul (by rw [Nat.mul_comm N]; exact Nat.mul_le_mul_left _ (by have h5 := sum_take_le (t := t) (fun z hz => by obtain ⟨j, hj, rfl⟩ := List.mem_iff_getElem.1 hz; rw [← rd_mem t j hj]; exact (HPR.out j hj).1) (i + 1); have := HFT.out.2.1; have := HFT.out.2.2; omega))
      have b2 : wd * S / N ≤ wd := Nat.le_trans (Nat.div_le_div_right (Nat.mul_le_mul_left _ (Nat.le_add_right _ _))) b1
      clear hx p1 p2 hT2 hlt
      have hd1 : wd * (S + x) < 9000000000000000000 := Nat.lt_of_le_of_lt (Nat.mul_le_mul (show wd ≤ 65536 by omega) hTN) (by decide)
      obtain ⟨c0, c1, f0, f1⟩ := HSP.out
      have m1 : (wd : Int) * ((S : Int) + (x : Int)) = ((wd * (S + x) : Nat) : Int) := by push_cast; rfl
      have m2 : (wd : Int) * (S : Int) = ((wd * S : Nat) : Int) := by push_cast; rfl
      have hd2 : wd * S < 9000000000000000000 := Nat.lt_of_le_of_lt (Nat.mul_le_mul_left _ (Nat.le_add_right _ _)) hd1
      have d1 : ((wd * (S + x) : Nat) : Int) / (N : Int) = ((wd * (S + x) / N : Nat) : Int) := (Int.natCast_ediv _ _).symm
      have d2 : ((wd * S : Nat) : Int) / (N : Int) = ((wd * S / N : Nat) : Int) := (Int.natCast_ediv _ _).symm
      generalize hQ1 : wd * (S + x) / N = Q1 at b1 d1
      generalize hQ2 : wd * S / N = Q2 at b2 d2
      have HQQ := Lib.hid (And.intro hQ1 hQ2)
      clear hQ1 hQ2
      generalize wd * (S + x) = M1 at m1 hd1 d1
      generalize wd * S = M2 at m2 hd2 d2
      go_upto_region 6 with fail
      go_quiet ((go_at_call 51; exact Calls.quiet_of (HW.out _)))
      go_wp2
      go_end0
      exact ⟨rfl, nq, by rw [HQQ.out.1, HQQ.out.2, Int.natCast_add]⟩
end Go.Proofs.Ytikjolinendfgaa.Ari
