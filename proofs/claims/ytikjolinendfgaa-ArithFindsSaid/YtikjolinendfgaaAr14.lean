/- The walk of the document's Get (arith). -/
import Derived.Test.YtikjolinendfgaaAr13
set_option linter.unusedVariables false
set_option linter.unusedSimpArgs false
namespace Go.Proofs.Ytikjolinendfgaa.Ari
open Go.RowKit Go.Proofs.YtikjolinendfgaaW.PrintWords Go.Proofs.YtikjolinendfgaaW.PrintLast Go.Proofs.YtikjolinendfgaaW.PrintMore Go.Proofs.Ytikjolinendfgaa.Bit

/-- the document's finder as it stands: the value less the range's beginning -/
def RS (f : Nat) (A : Option Addr) (c : Nat) (L : List Int) (w0 : World) (fr : Nat) (s : Fs) (W : World) : Prop := RF f A c L w0 s.lo s.wd (s.va - s.lo) (fr + s.rd) s.rd W
/-- what the document's Get leaves -/
def RGot (f : Nat) (A : Option Addr) (c : Nat) (L : List Int) (w0 : World) (fr : Nat) (s : Fs) (t : List Int) (i : Nat) (w' : World) : Prop :=
  i < t.length ∧ (t.take i).sum.toNat ≤ keyF s t.sum.toNat ∧ keyF s t.sum.toNat < (t.take (i + 1)).sum.toNat ∧ ∃ k s', runF (bD L) fr k (narF s t.sum.toNat (t.take i).sum.toNat (t.take (i + 1)).sum.toNat) = some s' ∧ offL s'.lo s'.wd = none ∧ RS f A c L w0 fr s' w'
set_option maxRecDepth 100000 in
set_option maxHeartbeats 1000000 in
theorem rget_no (f : Nat) (A : Option Addr) (n c : Nat) (t : List Int) (w : World) (hr : ReadsInt w .i64 A n t) (hb : ∀ x ∈ t, -9223372036854775808 ≤ x ∧ x ≤ 9223372036854775807) (hg : ¬ Good t) :
    Calls Try.prog 28 #[.pointer (some ⟨f, 0, none⟩), .slice A n c] w fun e w' => e = .returned (.tuple #[.int .i64 0, .int .i64 1]) ∧ ∃ k, w' = w.drewN k := by
  have HT := Lib.hid (rtotal_any A n c t w hr hb)
  rw [total_not hg] at HT
  clear hr hb hg
  go_enter Try.func28, Try.ntmps28
  go_wp2_with (go_at_call 17; refine HT.out.mono ?_; rintro e w1 ⟨rfl, rfl⟩)
  go_ret2
  exact ⟨rfl, 0, rfl⟩
set_option maxRecDepth 100000 in
set_option maxHeartbeats 4000000 in
theorem rget_ok (f : Nat) (Ab : Option Addr) (cb : Nat) (L : List Int) (w0 : World) (fr : Nat) (s : Fs) (A : Option Addr) (n c : Nat) (t : List Int) (w : World) (h : RS f Ab cb L w0 fr s w) (hL : ∀ x ∈ L, 0 ≤ x ∧ x ≤ 1) (hi : InF s) (hr : ReadsInt w .i64 A n t) (hc : n ≤ c) (hb : ∀ x ∈ t, -9223372036854775808 ≤ x ∧ x ≤ 9223372036854775807) (hg : Good t) (h1 : fr ≤ 10000000) (h2 : s.rd ≤ 1000000) (hfar : ∀ ad, A = some ad → ad.block ≠ f) :
    Calls Try.prog 28 #[.pointer (some ⟨f, 0, none⟩), .slice A n c] w fun e w' => ∃ i : Nat, e = .returned (.tuple #[.int .i64 i, .int .i64 0]) ∧ RGot f Ab cb L w0 fr s t i w' := by
  obtain rfl := hr.1
  obtain ⟨v, hv⟩ : ∃ v, v = s.va - s.lo := ⟨_, rfl⟩
  have c0 : w.cell? ⟨f, 0, none⟩ = some (.int .i64 s.lo) := (blk_cell h.at_ 0).trans rfl
  have c1 : w.cell? ⟨f, 1, none⟩ = some (.int .i64 s.wd) := (blk_cell h.at_ 1).trans rfl
  have c2 : w.cell? ⟨f, 2, none⟩ = some (.int .i64 v) := by rw [hv]; exact (blk_cell h.at_ 2).trans rfl
  obtain ⟨hz, hz2, hz3⟩ := total_in hg
  have HT0 := rtotal_any A t.length c t w hr hb
  rw [hz] at HT0
  obtain ⟨N, hN⟩ := Int.eq_ofNat_of_zero_le (show 0 ≤ t.sum by omega)
  rw [hN] at HT0 hz2 hz3
  have HT := Lib.hid HT0
  have hKN : keyF s N < N := keyF_lt hi (by omega)
  obtain ⟨i1, i2, i3, i4⟩ := hi
  have HPR := Lib.hid (fun i (hi : i < t.length) => hg.pre i hi)
  have HTS := Lib.hid (fun i (hi : i < t.length) => sum_take_succ t i hi)
  have HNN : Hid (t.sum = N) := hN
  have HR := Lib.hid hr
  have HFL := Lib.hid (fun (W : World) (hW : ReadsInt W .i64 A t.length t) (i : Nat) (x : Int) (hx : x = i) (hi : i ≤ t.length) (F : Nat) (hF : (t.take i).sum = F) => rfloor_any A t.length c t i x hx W hW hg hi F hF)
  have HNF := Lib.hid (fun (F T : Nat) (h3 : F ≤ keyF s N) (h4 : keyF s N < T) (h5 : T ≤ N) => narF_in (s := s) ⟨i1, i2, i3, i4⟩ (show 1 ≤ N by omega) h3 h4 h5)
  have HFS := Lib.hid h
  have HSL := Lib.hid (fun i => (sum_take_le hg.2.2.1 i).2)
  have HL := Lib.hid hL
  obtain ⟨M, hM⟩ : ∃ M, M = (v + 1) * N := ⟨_, rfl⟩
  have m1 : ((v : Int) + 1) * (N : Int) = (M : Int) := by rw [hM]; push_cast; rfl
  have hM1 : 1 ≤ M := by rw [hM]; exact Nat.mul_le_mul (show 1 ≤ v + 1 by omega) (show 1 ≤ N by omega)
  have hM2 : M ≤ 65536 * 4096 := by rw [hM]; exact Nat.mul_le_mul (by omega) (by omega)
  have hv2 : v < 65536 := by omega
  obtain ⟨K, hK⟩ : ∃ K, K = keyF s N := ⟨_, rfl⟩
  have d1 : ((M : Int) - 1) / (s.wd : Int) = (K : Int) := by
    rw [show (M : Int) - 1 = ((M - 1 : Nat) : Int) from by omega, ← Int.natCast_ediv, hK, hM, hv]
    rfl
  rw [← hK] at hKN HNF
  have HK := Lib.hid hK
  have HV := Lib.hid hv
  have hwd0 : ((s.wd : Int) == 0) = false := beq_eq_false_iff_ne.2 (by omega)
  have hN0 : ((N : Int) == 0) = false := beq_eq_false_iff_ne.2 (by omega)
  have htl := hg.2.1
  have htl1 := hg.1
  clear hz hN hM hK hv h hr hb hg HT0 hL
  go_enter Try.func28, Try.ntmps28
  go_wp2_with (go_at_call 17; refine HT.out.mono ?_; rintro e w1 ⟨rfl, rfl⟩)
  go_quiet (fail)
  go_wp2
  rw [d1]
  clear d1
  go_loopg [8] t.length (fun gk y W => ∃ (i S : Nat), i < t.length ∧ S ≤ K ∧ gk = t.length - i ∧ y = .int .i64 i ∧ Hid ((t.take i).sum = S) ∧ Hid (∃ j, W = w1.drewN j))
  case atStart => exact ⟨0, 0, by omega, by omega, rfl, rfl, by show (t.take 0).sum = _; simp, ⟨nq, rfl⟩⟩
  case round =>
    obtain ⟨i, S, hil, hSK, rfl, rfl, HS, HWj⟩ := hrel
    obtain ⟨p1, p2⟩ := HPR.out i hil
    have hT2 := HTS.out i hil
    obtain ⟨x, hx⟩ := Int.eq_ofNat_of_zero_le (show 0 ≤ rd t (i : Int) by omega)
    rw [hx] at p1 p2 hT2
    rw [HS.out] at p2 hT2
    have HT2 : Hid ((t.take (i + 1)).sum = ((S + x : Nat) : Int)) := by show _ = _; rw [hT2]; push_cast; rfl
    have hTN : S + x ≤ N := by have h1 := HSL.out (i + 1); rw [HT2.out, HNN.out] at h1; omega
    have HLast : Hid (i + 1 = t.length → S + x = N) := fun e => by
      have h1 := HT2.out
      rw [e, List.take_length, HNN.out] at h1
      omega
    obtain ⟨j, hj⟩ := HWj.out
    have HRW : Hid (ReadsInt wr .i64 A t.length t) := by rw [hj]; exact HR.out.drewN j
    have HFW : Hid (RS f Ab cb L w0 fr s wr) := by rw [hj]; exact RF.drewN HFS.out j
    clear hx hT2 hj
    obtain ⟨T, hT⟩ : ∃ T, T = S + x := ⟨_, rfl⟩
    rw [← hT] at HT2 hTN HLast
    have hT1 : 1 ≤ T ∧ S < T := by omega
    clear hT p1 p2
    have HFB := Lib.hid (HFL.out wr HRW.out (i + 1) ((i : Int) + 1) (by omega) (by omega) T HT2.out)
    by_cases hge : (T : Int) ≤ (K : Int)
    · have hlt2 : i + 1 < t.length := by
        rcases Nat.lt_or_ge (i + 1) t.length with h | h
        · exact h
        · have := HLast.out (by omega); omega
      clear HFW HRW
      go_wp2_with (go_at_call 45; refine HFB.out.mono ?_; rintro e w2 ⟨rfl, rfl⟩)
      go_roundg (t.length - (i + 1))
      case measure => omega
      case rel => exact ⟨i + 1, T, hlt2, by omega, rfl, by go_num, HT2, HWj⟩
    · have HN2 := Lib.hid (HNF.out S T hSK (by omega) hTN)
      have HFA := Lib.hid (fun k => (HFL.out (wr.drewN k) (HRW.out.drewN k) i (i : Int) rfl (by omega) S HS.out).mono (R' := fun e w' => e = .returned (.int .i64 (S : Int)) ∧ ∃ q, w' = (wr.drewN k).drewN q) (fun e w' ⟨h1, h2⟩ => ⟨h1, 0, h2⟩))
      have HFC := Lib.hid (fun k' k => (HFL.out ((wr.drewN k').drewN k) ((HRW.out.drewN k').drewN k) (i + 1) ((i : Int) + 1) (by omega) (by omega) T HT2.out).mono (R' := fun e w' => e = .returned (.int .i64 (T : Int)) ∧ ∃ q, w' = ((wr.drewN k').drewN k).drewN q) (fun e w' ⟨h1, h2⟩ => ⟨h1, 0, h2⟩))
      have f0 : wr.frozen? ⟨f, 0, none⟩ = false := blk_frozen HFW.out.at_ 0
      have f1 : wr.frozen? ⟨f, 1, none⟩ = false := blk_frozen HFW.out.at_ 1
      have f2 : wr.frozen? ⟨f, 2, none⟩ = false := blk_frozen HFW.out.at_ 2
      have k0 : wr.cell? ⟨f, 0, none⟩ = some (.int .i64 s.lo) := (blk_cell HFW.out.at_ 0).trans rfl
      have k1 : wr.cell? ⟨f, 1, none⟩ = some (.int .i64 s.wd) := (blk_cell HFW.out.at_ 1).trans rfl
      have k2 : wr.cell? ⟨f, 2, none⟩ = some (.int .i64 v) := by have h := (blk_cell HFW.out.at_ 2).trans (a := _) rfl; rw [HV.out]; exact h
      obtain ⟨P, hP⟩ : ∃ P, P = s.wd * S := ⟨_, rfl⟩
      obtain ⟨P2, hP2⟩ : ∃ P2, P2 = s.wd * T := ⟨_, rfl⟩
      have q1 : (s.wd : Int) * (S : Int) = (P : Int) := by rw [hP]; push_cast; rfl
      have q2 : (s.wd : Int) * (T : Int) = (P2 : Int) := by rw [hP2]; push_cast; rfl
      have q3 : P ≤ 65536 * 4096 := by rw [hP]; exact Nat.mul_le_mul (by omega) (by omega)
      have q4 : P2 ≤ 65536 * 4096 := by rw [hP2]; exact Nat.mul_le_mul (by omega) (by omega)
      have hin := HN2.out
      obtain ⟨Qa, hQa⟩ : ∃ Qa, Qa = s.wd * S / N := ⟨_, rfl⟩
      obtain ⟨Qb, hQb⟩ : ∃ Qb, Qb = s.wd * T / N := ⟨_, rfl⟩
      have q5 : (P : Int) / (N : Int) = (Qa : Int) := by rw [hQa, hP]; exact (Int.natCast_ediv _ _).symm
      have q6 : (P2 : Int) / (N : Int) = (Qb : Int) := by rw [hQb, hP2]; exact (Int.natCast_ediv _ _).symm
      have q7 : Qa ≤ Qb ∧ Qb ≤ s.wd ∧ Qa ≤ v := by
        have a1 := hin.1.2.2.1
        change s.lo + s.wd * S / N ≤ s.va at a1
        rw [← hQa] at a1
        have a2 := hin.2
        rw [← hQa, ← hQb] at a2
        have := HV.out
        omega
      obtain ⟨q71, q72, q73⟩ := q7
      have q8 : IntKind.i64.wrap ((i : Int) + 1) = (i : Int) + 1 := IntWalk.i64_in _ (by omega)
      have HQ := Lib.hid (And.intro hQa hQb)
      clear hP hP2 hQa hQb hin HRW HWj
      go_wp2_with (go_at_call 45; refine HFB.out.mono ?_; rintro e w2 ⟨rfl, rfl⟩)
      go_quiet ((go_at_call 45; exact Calls.quiet_of (HFA.out _)))
      go_wp2
      obtain ⟨w4, hw4⟩ : ∃ w4, w4 = w2.drewN nq := ⟨_, rfl⟩
      rw [← hw4]
      have HF4 : Hid (RS f Ab cb L w0 fr s w4) := by rw [hw4]; exact RF.drewN HFW.out nq
      have HF4C : Hid (∀ k, (Calls Try.prog 45 #[.slice A t.length c, .int .i64 ((i : Int) + 1)] (w4.drewN k) fun e w' => e = .returned (.int .i64 (T : Int)) ∧ ∃ q, w' = (w4.drewN k).drewN q)) := by rw [hw4]; exact fun k => HFC.out nq k
      clear f0 f1 f2 k0 k1 k2 hw4 HFC HFW HFA HFB
      have f0 : w4.frozen? ⟨f, 0, none⟩ = false := blk_frozen HF4.out.at_ 0
      have f1 : w4.frozen? ⟨f, 1, none⟩ = false := blk_frozen HF4.out.at_ 1
      have f2 : w4.frozen? ⟨f, 2, none⟩ = false := blk_frozen HF4.out.at_ 2
      have k0 : w4.cell? ⟨f, 0, none⟩ = some (.int .i64 s.lo) := (blk_cell HF4.out.at_ 0).trans rfl
      have k1 : w4.cell? ⟨f, 1, none⟩ = some (.int .i64 s.wd) := (blk_cell HF4.out.at_ 1).trans rfl
      have k2 : w4.cell? ⟨f, 2, none⟩ = some (.int .i64 v) := by have h := (blk_cell HF4.out.at_ 2).trans (a := _) rfl; rw [HV.out]; exact h
      have HST : Hid (∀ k, RS f Ab cb L w0 fr (narF s N S T) ((((w4.drewN k).setCell ⟨f, 0, none⟩ (.int .i64 ((s.lo : Int) + Qa))).setCell ⟨f, 2, none⟩ (.int .i64 ((v : Int) - Qa))).setCell ⟨f, 1, none⟩ (.int .i64 ((Qb : Int) - Qa)))) := by
        intro k
        have h5 := (((RF.drewN HF4.out k).s0 (s.lo + Qa)).s2 (v - Qa)).s1 (Qb - Qa)
        rw [show ((s.lo + Qa : Nat) : Int) = (s.lo : Int) + Qa from by omega, show ((v - Qa : Nat) : Int) = (v : Int) - Qa from by omega, show ((Qb - Qa : Nat) : Int) = (Qb : Int) - Qa from by omega] at h5
        show RF f Ab cb L w0 (s.lo + s.wd * S / N) (s.wd * T / N - s.wd * S / N) (s.va - (s.lo + s.wd * S / N)) (fr + s.rd) s.rd _
        rw [← HQ.out.1, ← HQ.out.2, show s.va - (s.lo + Qa) = v - Qa from by have := HV.out; omega]
        exact h5
      have HK1 : Hid ((t.take i).sum.toNat = S ∧ (t.take (i + 1)).sum.toNat = T ∧ t.sum.toNat = N) := ⟨by rw [HS.out]; rfl, by rw [HT2.out]; rfl, by rw [HNN.out]; rfl⟩
      have HI0 := Lib.hid HN2.out.1
      have HRD : Hid ((narF s N S T).rd = s.rd) := rfl
      generalize hu0 : narF s N S T = u0 at HST HI0 HRD
      have HU0 := Lib.hid hu0
      have hrd0 := HRD.out
      clear hu0
      go_quiet ((go_at_call 45; exact Calls.quiet_of (HF4C.out _)))
      go_wp2
      have hdf : decide (T ≤ K) = false := decide_eq_false (by omega)
      try simp only [hdf]
      clear hdf
      have HSK := Lib.hid hSK
      have HKT : Hid (K < T) := by show _ < _; omega
      have HILL := Lib.hid hil
      clear q1 q2 q3 q4 q5 q6 q71 q72 q73 q8 m1 hM1 hM2 hv2 i1 i2 i3 i4 hge hTN hwd0 hN0 hz2 hz3 htl1 htl hSK hT1 hKN hil
      go_loopg [] (65536 - u0.wd) (fun gk W => ∃ (k : Nat) (u : Fs), gk = 65536 - u.wd ∧ u.rd + (65536 - u.wd) ≤ 2000000 ∧ Hid (InF u) ∧ Hid (RS f Ab cb L w0 fr u W) ∧ Hid (runF (bD L) fr k u0 = some u))
      case atStart => exact ⟨0, u0, rfl, by omega, HI0, HST.out _, rfl⟩
      case round =>
        obtain ⟨k, u, rfl, hub, HI, HU, HR2⟩ := hrel
        obtain ⟨g1, g2, g3, g4⟩ := HI.out
        obtain ⟨lo, hlo⟩ : ∃ lo, lo = u.lo := ⟨_, rfl⟩
        obtain ⟨wd, hwd⟩ : ∃ wd, wd = u.wd := ⟨_, rfl⟩
        obtain ⟨va, hva⟩ : ∃ va, va = u.va - u.lo := ⟨_, rfl⟩
        have HW0 : Hid (RF f Ab cb L w0 lo wd va (fr + u.rd) u.rd wr) := by show RF _ _ _ _ _ _ _ _ _ _ _; rw [hlo, hwd, hva]; exact HU.out
        have k0 : wr.cell? ⟨f, 0, none⟩ = some (.int .i64 lo) := (blk_cell HW0.out.at_ 0).trans rfl
        have k1 : wr.cell? ⟨f, 1, none⟩ = some (.int .i64 wd) := (blk_cell HW0.out.at_ 1).trans rfl
        have k2 : wr.cell? ⟨f, 2, none⟩ = some (.int .i64 va) := (blk_cell HW0.out.at_ 2).trans rfl
        have f0 : wr.frozen? ⟨f, 0, none⟩ = false := blk_frozen HW0.out.at_ 0
        have f1 : wr.frozen? ⟨f, 1, none⟩ = false := blk_frozen HW0.out.at_ 1
        have f2 : wr.frozen? ⟨f, 2, none⟩ = false := blk_frozen HW0.out.at_ 2
        have HLO := Lib.hid (And.intro hlo (And.intro hwd hva))
        have hb1 : 1 ≤ wd ∧ lo + wd ≤ 65536 ∧ va < wd := by omega
        have hrdb : u.rd ≤ 2000000 := by omega
        generalize hrc : u.rd = rc at HW0 hrdb
        have HRC := Lib.hid hrc
        have HMS : Hid (wd ≤ 32768 → 65536 - 2 * wd < 65536 - u.wd ∧ rc + 1 + (65536 - 2 * wd) ≤ 2000000) := fun h => by omega
        clear g1 g2 g3 g4 hlo hwd hva hub hrc HU
        obtain ⟨sm, hsm⟩ : ∃ sm, sm = lo + wd := ⟨_, rfl⟩
        have hsum : (lo : Int) + (wd : Int) = (sm : Int) := by omega
        clear hsm
        by_cases a1 : (sm : Int) ≤ 32768
        · have HO : Hid (offL lo wd = some 0) := if_pos (show lo + wd ≤ 32768 by omega)
          have hw32 : wd ≤ 32768 := by omega
          obtain ⟨hms1, hms2⟩ := HMS.out hw32
          go_wp2
          go_quiet (fail)
          go_upto_region 22 with fail
          generalize hwx : ((((wr.drewN nq).setCell ⟨f, 0, none⟩ (.int .i64 (lo : Int))).setCell ⟨f, 0, none⟩ (.int .i64 ((lo : Int) * 2))).setCell ⟨f, 1, none⟩ (.int .i64 ((wd : Int) * 2))) = wx
          have HX : Hid (RF f Ab cb L w0 (2 * lo) (2 * wd) va (fr + rc) rc wx) := by
            have h5 := (((RF.drewN HW0.out nq).s0 lo).s0 (2 * lo)).s1 (2 * wd)
            rw [show ((2 * lo : Nat) : Int) = (lo : Int) * 2 from by omega, show ((2 * wd : Nat) : Int) = (wd : Int) * 2 from by omega] at h5
            rw [← hwx]
            exact h5
          clear hwx k0 k1 k2 f0 f1 f2 HW0
          have k2 : wx.cell? ⟨f, 2, none⟩ = some (.int .i64 va) := (blk_cell HX.out.at_ 2).trans rfl
          have hbb := bD_le HL.out (fr + rc)
          have TT := Lib.hid (rbit_any f Ab cb L w0 _ _ va (fr + rc) rc wx.drew HX.out.drew HL.out (by omega) (by omega))
          have HBB : Hid (bD L (fr + rc) = bD L (fr + rc)) := rfl
          obtain ⟨bb, hbb2⟩ : ∃ bb, bb = bD L (fr + rc) := ⟨_, rfl⟩
          rw [← hbb2] at hbb TT
          have HB2 := Lib.hid hbb2
          clear hbb2
          go_region_with (first
              | (go_at_call 50; refine TT.out.mono ?_; rintro e w3 ⟨rfl, h3⟩; have c2' : w3.cell? ⟨f, 2, none⟩ = some (.int .i64 va) := (blk_cell h3.at_ 2).trans rfl; have f2 : w3.frozen? ⟨f, 2, none⟩ = false := blk_frozen h3.at_ 2)
              | fail)
          all_goals
            go_wp2
            go_roundg (65536 - 2 * wd)
            case measure => exact hms1
            case rel =>
              have hou : offL u.lo u.wd = some 0 := by rw [← HLO.out.1, ← HLO.out.2.1]; exact HO.out
              refine ⟨k + 1, nxF (bD L) fr 0 u, by show 65536 - 2 * wd = 65536 - 2 * u.wd; rw [HLO.out.2.1], by show u.rd + 1 + (65536 - 2 * u.wd) ≤ 2000000; rw [HRC.out, ← HLO.out.2.1]; exact hms2, (nxF_in (bD_le HL.out) hou HI.out).1, ?_, ?_⟩
              · rw [show IntKind.i64.wrap (IntKind.i64.wrap ((va : Int) * 2) + (bb : Int)) = ((2 * va + bb : Nat) : Int) from by rw [IntWalk.i64_in ((va : Int) * 2) (by omega), IntWalk.i64_in _ (by omega)]; omega]
                have h6 := h3.s2 (2 * va + bb)
                show RF f Ab cb L w0 (2 * (u.lo - 0)) (2 * u.wd) (2 * (u.va - 0) + bD L (fr + u.rd) - 2 * (u.lo - 0)) (fr + (u.rd + 1)) (u.rd + 1) _
                have e5 : 2 * (u.va - 0) + bD L (fr + u.rd) - 2 * (u.lo - 0) = 2 * va + bb := by
                  have b1 := HI.out.2.2.1
                  have b2 := HLO.out
                  rw [HRC.out, ← HB2.out]
                  omega
                rw [e5, HRC.out, ← HLO.out.1, ← HLO.out.2.1]
                exact h6
              · show (runF (bD L) fr k u0).bind _ = _
                rw [HR2.out]
                show Option.map _ (offL u.lo u.wd) = _
                rw [hou]
                rfl
        by_cases a2 : (32768 : Int) ≤ (lo : Int)
        · have HO : Hid (offL lo wd = some 32768) := (if_neg (show ¬ lo + wd ≤ 32768 by omega)).trans (if_pos (show 32768 ≤ lo by omega))
          have hw32 : wd ≤ 32768 := by omega
          obtain ⟨hms1, hms2⟩ := HMS.out hw32
          go_wp2
          go_quiet (fail)
          go_upto_region 22 with fail
          generalize hwx : ((((wr.drewN nq).setCell ⟨f, 0, none⟩ (.int .i64 ((lo : Int) - 32768))).setCell ⟨f, 0, none⟩ (.int .i64 (((lo : Int) - 32768) * 2))).setCell ⟨f, 1, none⟩ (.int .i64 ((wd : Int) * 2))) = wx
          have HX : Hid (RF f Ab cb L w0 (2 * (lo - 32768)) (2 * wd) va (fr + rc) rc wx) := by
            have h5 := (((RF.drewN HW0.out nq).s0 (lo - 32768)).s0 (2 * (lo - 32768))).s1 (2 * wd)
            rw [show ((2 * (lo - 32768) : Nat) : Int) = ((lo : Int) - 32768) * 2 from by omega, show ((2 * wd : Nat) : Int) = (wd : Int) * 2 from by omega, show (((lo - 32768) : Nat) : Int) = ((lo : Int) - 32768) from by omega] at h5
            rw [← hwx]
            exact h5
          clear hwx k0 k1 k2 f0 f1 f2 HW0
          have k2 : wx.cell? ⟨f, 2, none⟩ = some (.int .i64 va) := (blk_cell HX.out.at_ 2).trans rfl
          have hbb := bD_le HL.out (fr + rc)
          have TT := Lib.hid (rbit_any f Ab cb L w0 _ _ va (fr + rc) rc wx.drew HX.out.drew HL.out (by omega) (by omega))
          have HBB : Hid (bD L (fr + rc) = bD L (fr + rc)) := rfl
          obtain ⟨bb, hbb2⟩ : ∃ bb, bb = bD L (fr + rc) := ⟨_, rfl⟩
          rw [← hbb2] at hbb TT
          have HB2 := Lib.hid hbb2
          clear hbb2
          go_region_with (first
              | (go_at_call 50; refine TT.out.mono ?_; rintro e w3 ⟨rfl, h3⟩; have c2' : w3.cell? ⟨f, 2, none⟩ = some (.int .i64 va) := (blk_cell h3.at_ 2).trans rfl; have f2 : w3.frozen? ⟨f, 2, none⟩ = false := blk_frozen h3.at_ 2)
              | fail)
          all_goals
            go_wp2
            go_roundg (65536 - 2 * wd)
            case measure => exact hms1
            case rel =>
              have hou : offL u.lo u.wd = some 32768 := by rw [← HLO.out.1, ← HLO.out.2.1]; exact HO.out
              refine ⟨k + 1, nxF (bD L) fr 32768 u, by show 65536 - 2 * wd = 65536 - 2 * u.wd; rw [HLO.out.2.1], by show u.rd + 1 + (65536 - 2 * u.wd) ≤ 2000000; rw [HRC.out, ← HLO.out.2.1]; exact hms2, (nxF_in (bD_le HL.out) hou HI.out).1, ?_, ?_⟩
              · rw [show IntKind.i64.wrap (IntKind.i64.wrap ((va : Int) * 2) + (bb : Int)) = ((2 * va + bb : Nat) : Int) from by rw [IntWalk.i64_in ((va : Int) * 2) (by omega), IntWalk.i64_in _ (by omega)]; omega]
                have h6 := h3.s2 (2 * va + bb)
                show RF f Ab cb L w0 (2 * (u.lo - 32768)) (2 * u.wd) (2 * (u.va - 32768) + bD L (fr + u.rd) - 2 * (u.lo - 32768)) (fr + (u.rd + 1)) (u.rd + 1) _
                have e5 : 2 * (u.va - 32768) + bD L (fr + u.rd) - 2 * (u.lo - 32768) = 2 * va + bb := by
                  have b1 := HI.out.2.2.1
                  have b2 := HLO.out
                  rw [HRC.out, ← HB2.out]
                  omega
                rw [e5, HRC.out, ← HLO.out.1, ← HLO.out.2.1]
                exact h6
              · show (runF (bD L) fr k u0).bind _ = _
                rw [HR2.out]
                show Option.map _ (offL u.lo u.wd) = _
                rw [hou]
                rfl
        by_cases a3 : (16384 : Int) ≤ (lo : Int)
        · by_cases a4 : (sm : Int) ≤ 49152
          · have HO : Hid (offL lo wd = some 16384) := (if_neg (show ¬ lo + wd ≤ 32768 by omega)).trans ((if_neg (show ¬ 32768 ≤ lo by omega)).trans (if_pos (show 16384 ≤ lo ∧ lo + wd ≤ 49152 by omega)))
            have hw32 : wd ≤ 32768 := by omega
            obtain ⟨hms1, hms2⟩ := HMS.out hw32
            have HA3 := Lib.hid a3
            have hda1 : decide ((sm : Int) ≤ 32768) = false := decide_eq_false a1
            have hda2 : decide ((32768 : Int) ≤ (lo : Int)) = false := decide_eq_false a2
            have hd4 : decide ((sm : Int) ≤ 49152) = true := decide_eq_true a4
            have HD4 := Lib.hid hd4
            clear hd4 a4
            clear a1 a2 a3
            go_wp2
            go_quiet (fail)
            go_upto_region 17 with fail
            obtain ⟨wy, hwy⟩ : ∃ wy, wy = wr.drewN nq := ⟨_, rfl⟩
            rw [← hwy]
            replace HW0 : Hid (RF f Ab cb L w0 lo wd va (fr + rc) rc wy) := by show RF _ _ _ _ _ _ _ _ _ _ _; rw [hwy]; exact RF.drewN HW0.out nq
            clear k0 k1 k2 f0 f1 f2 hwy
            have k0 : wy.cell? ⟨f, 0, none⟩ = some (.int .i64 lo) := (blk_cell HW0.out.at_ 0).trans rfl
            have k1 : wy.cell? ⟨f, 1, none⟩ = some (.int .i64 wd) := (blk_cell HW0.out.at_ 1).trans rfl
            have k2 : wy.cell? ⟨f, 2, none⟩ = some (.int .i64 va) := (blk_cell HW0.out.at_ 2).trans rfl
            have f0 : wy.frozen? ⟨f, 0, none⟩ = false := blk_frozen HW0.out.at_ 0
            have f1 : wy.frozen? ⟨f, 1, none⟩ = false := blk_frozen HW0.out.at_ 1
            have f2 : wy.frozen? ⟨f, 2, none⟩ = false := blk_frozen HW0.out.at_ 2
            have hd : decide ((16384 : Int) ≤ (lo : Int)) = true := decide_eq_true HA3.out
            have hd4 := HD4.out
            go_quiet (fail)
            go_upto_region 22 with fail
            generalize hwx : ((((wy.drewN nq).setCell ⟨f, 0, none⟩ (.int .i64 ((lo : Int) - 16384))).setCell ⟨f, 0, none⟩ (.int .i64 (((lo : Int) - 16384) * 2))).setCell ⟨f, 1, none⟩ (.int .i64 ((wd : Int) * 2))) = wx
            have hcut16 : 16384 ≤ lo := by have := HA3.out; omega
            have HX : Hid (RF f Ab cb L w0 (2 * (lo - 16384)) (2 * wd) va (fr + rc) rc wx) := by
              have h5 := (((RF.drewN HW0.out nq).s0 (lo - 16384)).s0 (2 * (lo - 16384))).s1 (2 * wd)
              rw [show ((2 * (lo - 16384) : Nat) : Int) = ((lo : Int) - 16384) * 2 from by omega, show ((2 * wd : Nat) : Int) = (wd : Int) * 2 from by omega, show (((lo - 16384) : Nat) : Int) = ((lo : Int) - 16384) from by omega] at h5
              rw [← hwx]
              exact h5
            clear hwx k0 k1 k2 f0 f1 f2 HW0
            have k2 : wx.cell? ⟨f, 2, none⟩ = some (.int .i64 va) := (blk_cell HX.out.at_ 2).trans rfl
            have hbb := bD_le HL.out (fr + rc)
            have TT := Lib.hid (rbit_any f Ab cb L w0 _ _ va (fr + rc) rc wx.drew HX.out.drew HL.out (by omega) (by omega))
            have HBB : Hid (bD L (fr + rc) = bD L (fr + rc)) := rfl
            obtain ⟨bb, hbb2⟩ : ∃ bb, bb = bD L (fr + rc) := ⟨_, rfl⟩
            rw [← hbb2] at hbb TT
            have HB2 := Lib.hid hbb2
            clear hbb2
            go_region_with (first
                | (go_at_call 50; refine TT.out.mono ?_; rintro e w3 ⟨rfl, h3⟩; have c2' : w3.cell? ⟨f, 2, none⟩ = some (.int .i64 va) := (blk_cell h3.at_ 2).trans rfl; have f2 : w3.frozen? ⟨f, 2, none⟩ = false := blk_frozen h3.at_ 2)
                | fail)
            all_goals
              go_wp2
              go_roundg (65536 - 2 * wd)
              case measure => exact hms1
              case rel =>
                have hou : offL u.lo u.wd = some 16384 := by rw [← HLO.out.1, ← HLO.out.2.1]; exact HO.out
                refine ⟨k + 1, nxF (bD L) fr 16384 u, by show 65536 - 2 * wd = 65536 - 2 * u.wd; rw [HLO.out.2.1], by show u.rd + 1 + (65536 - 2 * u.wd) ≤ 2000000; rw [HRC.out, ← HLO.out.2.1]; exact hms2, (nxF_in (bD_le HL.out) hou HI.out).1, ?_, ?_⟩
                · rw [show IntKind.i64.wrap (IntKind.i64.wrap ((va : Int) * 2) + (bb : Int)) = ((2 * va + bb : Nat) : Int) from by rw [IntWalk.i64_in ((va : Int) * 2) (by omega), IntWalk.i64_in _ (by omega)]; omega]
                  have h6 := h3.s2 (2 * va + bb)
                  show RF f Ab cb L w0 (2 * (u.lo - 16384)) (2 * u.wd) (2 * (u.va - 16384) + bD L (fr + u.rd) - 2 * (u.lo - 16384)) (fr + (u.rd + 1)) (u.rd + 1) _
                  have e5 : 2 * (u.va - 16384) + bD L (fr + u.rd) - 2 * (u.lo - 16384) = 2 * va + bb := by
                    have b1 := HI.out.2.2.1
                    have b2 := HLO.out
                    rw [HRC.out, ← HB2.out]
                    omega
                  rw [e5, HRC.out, ← HLO.out.1, ← HLO.out.2.1]
                  exact h6
                · show (runF (bD L) fr k u0).bind _ = _
                  rw [HR2.out]
                  show Option.map _ (offL u.lo u.wd) = _
                  rw [hou]
                  rfl
          · have HO : Hid (offL lo wd = none) := (if_neg (show ¬ lo + wd ≤ 32768 by omega)).trans ((if_neg (show ¬ 32768 ≤ lo by omega)).trans (if_neg (show ¬ (16384 ≤ lo ∧ lo + wd ≤ 49152) by omega)))
            have HA3 := Lib.hid a3
            have hda1 : decide ((sm : Int) ≤ 32768) = false := decide_eq_false a1
            have hda2 : decide ((32768 : Int) ≤ (lo : Int)) = false := decide_eq_false a2
            have hd4 : decide ((sm : Int) ≤ 49152) = false := decide_eq_false a4
            have HD4 := Lib.hid hd4
            clear hd4 a4
            clear a1 a2 a3
            go_wp2
            go_quiet (fail)
            go_upto_region 17 with fail
            obtain ⟨wy, hwy⟩ : ∃ wy, wy = wr.drewN nq := ⟨_, rfl⟩
            rw [← hwy]
            replace HW0 : Hid (RF f Ab cb L w0 lo wd va (fr + rc) rc wy) := by show RF _ _ _ _ _ _ _ _ _ _ _; rw [hwy]; exact RF.drewN HW0.out nq
            clear k0 k1 k2 f0 f1 f2 hwy
            have k0 : wy.cell? ⟨f, 0, none⟩ = some (.int .i64 lo) := (blk_cell HW0.out.at_ 0).trans rfl
            have k1 : wy.cell? ⟨f, 1, none⟩ = some (.int .i64 wd) := (blk_cell HW0.out.at_ 1).trans rfl
            have k2 : wy.cell? ⟨f, 2, none⟩ = some (.int .i64 va) := (blk_cell HW0.out.at_ 2).trans rfl
            have f0 : wy.frozen? ⟨f, 0, none⟩ = false := blk_frozen HW0.out.at_ 0
            have f1 : wy.frozen? ⟨f, 1, none⟩ = false := blk_frozen HW0.out.at_ 1
            have f2 : wy.frozen? ⟨f, 2, none⟩ = false := blk_frozen HW0.out.at_ 2
            have HD : Hid (∀ j, RS f Ab cb L w0 fr u (wy.drewN j)) := fun j => by
              show RF _ _ _ _ _ _ _ _ _ _ _
              rw [HRC.out, ← HLO.out.2.2, ← HLO.out.1, ← HLO.out.2.1]
              exact RF.drewN HW0.out j
            have hd : decide ((16384 : Int) ≤ (lo : Int)) = true := decide_eq_true HA3.out
            have hd4 := HD4.out
            go_quiet (fail)
            go_wp2
            go_ret2
            refine ⟨i, rfl, HILL.out, ?_, ?_, k, u, ?_, ?_, ?_⟩
            · rw [HK1.out.1, HK1.out.2.2, ← HK.out]; exact HSK.out
            · rw [HK1.out.2.1, HK1.out.2.2, ← HK.out]; exact HKT.out
            · rw [HK1.out.1, HK1.out.2.1, HK1.out.2.2, HU0.out]; exact HR2.out
            · rw [← HLO.out.1, ← HLO.out.2.1]; exact HO.out
            ·               exact HD.out _
        · have HO : Hid (offL lo wd = none) := (if_neg (show ¬ lo + wd ≤ 32768 by omega)).trans ((if_neg (show ¬ 32768 ≤ lo by omega)).trans (if_neg (show ¬ (16384 ≤ lo ∧ lo + wd ≤ 49152) by omega)))
          have HA3 := Lib.hid a3
          have hda1 : decide ((sm : Int) ≤ 32768) = false := decide_eq_false a1
          have hda2 : decide ((32768 : Int) ≤ (lo : Int)) = false := decide_eq_false a2
          clear a1 a2 a3
          go_wp2
          go_quiet (fail)
          go_upto_region 17 with fail
          obtain ⟨wy, hwy⟩ : ∃ wy, wy = wr.drewN nq := ⟨_, rfl⟩
          rw [← hwy]
          replace HW0 : Hid (RF f Ab cb L w0 lo wd va (fr + rc) rc wy) := by show RF _ _ _ _ _ _ _ _ _ _ _; rw [hwy]; exact RF.drewN HW0.out nq
          clear k0 k1 k2 f0 f1 f2 hwy
          have k0 : wy.cell? ⟨f, 0, none⟩ = some (.int .i64 lo) := (blk_cell HW0.out.at_ 0).trans rfl
          have k1 : wy.cell? ⟨f, 1, none⟩ = some (.int .i64 wd) := (blk_cell HW0.out.at_ 1).trans rfl
          have k2 : wy.cell? ⟨f, 2, none⟩ = some (.int .i64 va) := (blk_cell HW0.out.at_ 2).trans rfl
          have f0 : wy.frozen? ⟨f, 0, none⟩ = false := blk_frozen HW0.out.at_ 0
          have f1 : wy.frozen? ⟨f, 1, none⟩ = false := blk_frozen HW0.out.at_ 1
          have f2 : wy.frozen? ⟨f, 2, none⟩ = false := blk_frozen HW0.out.at_ 2
          have HD : Hid (∀ j, RS f Ab cb L w0 fr u (wy.drewN j)) := fun j => by
            show RF _ _ _ _ _ _ _ _ _ _ _
            rw [HRC.out, ← HLO.out.2.2, ← HLO.out.1, ← HLO.out.2.1]
            exact RF.drewN HW0.out j
          have hd : decide ((16384 : Int) ≤ (lo : Int)) = false := decide_eq_false (by have := HA3.out; omega)
          go_quiet (fail)
          go_wp2
          go_ret2
          refine ⟨i, rfl, HILL.out, ?_, ?_, k, u, ?_, ?_, ?_⟩
          · rw [HK1.out.1, HK1.out.2.2, ← HK.out]; exact HSK.out
          · rw [HK1.out.2.1, HK1.out.2.2, ← HK.out]; exact HKT.out
          · rw [HK1.out.1, HK1.out.2.1, HK1.out.2.2, HU0.out]; exact HR2.out
          · rw [← HLO.out.1, ← HLO.out.2.1]; exact HO.out
          ·             exact HD.out _
end Go.Proofs.Ytikjolinendfgaa.Ari
