/- The walk of the document's Put (arith). -/
import Derived.Test.YtikjolinendfgaaAr21
import Derived.Test.YtikjolinendfgaaAr12
set_option linter.unusedVariables false
set_option linter.unusedSimpArgs false
namespace Go.Proofs.Ytikjolinendfgaa.Ari
open Go.RowKit Go.Proofs.YtikjolinendfgaaW.PrintWords Go.Proofs.YtikjolinendfgaaW.PrintLast Go.Proofs.YtikjolinendfgaaW.PrintMore Go.Proofs.Ytikjolinendfgaa.Bit

theorem next0 (lo wd ow : Nat) (l : List Bool) (h : lo + wd ≤ 32768) : wstep ⟨lo, wd, ow, l⟩ = some ⟨2 * lo, 2 * wd, 0, l ++ false :: List.replicate ow (!false)⟩ := by
  unfold wstep
  rw [show offOf ⟨lo, wd, ow, l⟩ = some 0 from if_pos h]
  show some (dbl 0 (stepB 0 _)) = _
  unfold stepB
  rw [if_neg (by decide)]
  rfl
theorem next1 (lo wd ow : Nat) (l : List Bool) (h : ¬ lo + wd ≤ 32768) (h2 : 32768 ≤ lo) : wstep ⟨lo, wd, ow, l⟩ = some ⟨2 * (lo - 32768), 2 * wd, 0, l ++ true :: List.replicate ow (!true)⟩ := by
  unfold wstep
  rw [show offOf ⟨lo, wd, ow, l⟩ = some 32768 from (if_neg h).trans (if_pos h2)]
  show some (dbl 32768 (stepB 32768 _)) = _
  unfold stepB
  rw [if_neg (by decide)]
  rfl
theorem next2 (lo wd ow : Nat) (l : List Bool) (h : ¬ lo + wd ≤ 32768) (h2 : ¬ 32768 ≤ lo) (h3 : 16384 ≤ lo ∧ lo + wd ≤ 49152) : wstep ⟨lo, wd, ow, l⟩ = some ⟨2 * (lo - 16384), 2 * wd, ow + 1, l⟩ := by
  unfold wstep
  rw [show offOf ⟨lo, wd, ow, l⟩ = some 16384 from (if_neg h).trans ((if_neg h2).trans (if_pos h3))]
  show some (dbl 16384 (stepB 16384 _)) = _
  unfold stepB
  rw [if_pos rfl]
  rfl
theorem run_snoc {k : Nat} {s u u' : St} (h : runN k s = some u) (h2 : wstep u = some u') : runN (k + 1) s = some u' := by
  show (runN k s).bind wstep = _
  rw [h]
  exact h2
set_option maxRecDepth 100000 in
set_option maxHeartbeats 1000000 in
theorem rput_ended (m lo wd ow : Nat) (l : List Bool) (v : Value) (u z : Value) (w : World) (h : RCo w m lo wd ow true l v) :
    Calls Try.prog 19 #[.pointer (some ⟨m, 0, none⟩), u, z] w fun e w' => e = .returned (.int .i64 250) ∧ w' = w := by
  have c3 := h.c3
  clear h
  go_enter Try.func19, Try.ntmps19
  go_wp2
  go_ret
  exact ⟨rfl, rfl⟩
set_option maxRecDepth 100000 in
set_option maxHeartbeats 1000000 in
theorem rput_no (m lo wd ow : Nat) (l : List Bool) (v : Value) (A : Option Addr) (n c : Nat) (t : List Int) (x : Int) (w : World) (h : RCo w m lo wd ow false l v) (hr : ReadsInt w .i64 A n t) (hb : ∀ x ∈ t, -9223372036854775808 ≤ x ∧ x ≤ 9223372036854775807) (hx : ¬ okS t x) :
    Calls Try.prog 19 #[.pointer (some ⟨m, 0, none⟩), .slice A n c, .int .i64 x] w fun e w' => e = .returned (.int .i64 1) ∧ w' = w := by
  have c3 := h.c3
  have HT := Lib.hid (rtotal_any A n c t w hr hb)
  obtain rfl := hr.1
  clear h hr hb
  by_cases hg : Good t
  · have hin := total_in hg
    have hx2 : x < 0 ∨ (t.length : Int) ≤ x := by
      rcases Int.lt_or_le x 0 with h | h
      · exact .inl h
      · rcases Int.lt_or_le x t.length with h2 | h2
        · exact absurd ⟨hg, h, h2⟩ hx
        · exact .inr h2
    have htz : totalZ t ≠ 0 := by omega
    generalize totalZ t = T at HT htz
    have hT0 : (T == 0) = false := beq_eq_false_iff_ne.2 htz
    clear hin hx hg
    rcases hx2 with h | h
    · go_enter Try.func19, Try.ntmps19
      go_wp2_with (go_at_call 17; refine HT.out.mono ?_; rintro e w1 ⟨rfl, rfl⟩)
      go_ret
      exact ⟨rfl, rfl⟩
    · have h0 : 0 ≤ x := by omega
      go_enter Try.func19, Try.ntmps19
      go_wp2_with (go_at_call 17; refine HT.out.mono ?_; rintro e w1 ⟨rfl, rfl⟩)
      go_ret
      exact ⟨rfl, rfl⟩
  · rw [total_not hg] at HT
    clear hx hg
    go_enter Try.func19, Try.ntmps19
    go_wp2_with (go_at_call 17; refine HT.out.mono ?_; rintro e w1 ⟨rfl, rfl⟩)
    go_ret
    exact ⟨rfl, rfl⟩
set_option maxRecDepth 100000 in
set_option maxHeartbeats 4000000 in
theorem rput_ok (m : Nat) (s : St) (v : Value) (A : Option Addr) (n c : Nat) (t : List Int) (i : Nat) (w : World) (h : RCo w m s.lo s.wd s.ow false s.bits v) (hr : ReadsInt w .i64 A n t) (hb : ∀ x ∈ t, -9223372036854775808 ≤ x ∧ x ≤ 9223372036854775807) (hg : Good t) (hi : i < t.length)
    (hs : Rest s) (hn : s.bits.length + s.ow + 65536 < 100000000) :
    Calls Try.prog 19 #[.pointer (some ⟨m, 0, none⟩), .slice A n c, .int .i64 i] w fun e w' => e = .returned (.int .i64 0) ∧ ∃ k s' v', Wid k (cut t i s) s' ∧ RCo w' m s'.lo s'.wd s'.ow false s'.bits v' ∧ Fr m v v' w w' := by
  obtain rfl := hr.1
  obtain ⟨hz, hz2, hz3⟩ := total_in hg
  have HT0 := rtotal_any A t.length c t w hr hb
  rw [hz] at HT0
  have e1 := sum_take_le hg.2.2.1 i
  have e2 := sum_take_le hg.2.2.1 (i + 1)
  have hcut := cut_in hg hi hs
  obtain ⟨F, hF⟩ := Int.eq_ofNat_of_zero_le e1.1
  obtain ⟨T, hT⟩ := Int.eq_ofNat_of_zero_le e2.1
  obtain ⟨N, hN⟩ := Int.eq_ofNat_of_zero_le (show 0 ≤ t.sum by omega)
  have hFN : F ≤ N := by have := e1.2; omega
  have hTN : T ≤ N := by have := e2.2; omega
  rw [hN] at HT0 hz2 hz3
  have HT := Lib.hid HT0
  unfold cut at hcut
  rw [hF, hT, hN, Int.toNat_natCast, Int.toNat_natCast, Int.toNat_natCast] at hcut
  have HC : Hid (cut t i s = narrow s N F T) := by
    show _ = _
    unfold cut
    rw [hF, hT, hN, Int.toNat_natCast, Int.toNat_natCast, Int.toNat_natCast]
  obtain ⟨sl, sw, so, sb⟩ := s
  change RCo w m sl sw so false sb v at h
  have hsw := hs.2
  have hsw1 := hs.1
  change sb.length + so + 65536 < 100000000 at hn
  change sl + sw ≤ 65536 at hsw
  change 16384 < sw at hsw1
  obtain ⟨hc1, hc2, hc3, hc4⟩ := hcut
  change sw * F / N ≤ sw * T / N at hc3
  change sw * T / N ≤ sw at hc4
  have HFA := Lib.hid (fun k => rfloor_any A t.length c t i (i : Int) rfl (w.drewN k) (hr.drewN k) hg (by omega) F hF)
  have HFC := Lib.hid (fun (W : World) (hW : ReadsInt W .i64 A t.length t) => rfloor_any A t.length c t (i + 1) ((i : Int) + 1) (by omega) W hW hg (by omega) T hT)
  have HR := Lib.hid hr
  obtain ⟨P, hP⟩ : ∃ P, P = sw * F := ⟨_, rfl⟩
  obtain ⟨P2, hP2⟩ : ∃ P2, P2 = sw * T := ⟨_, rfl⟩
  have q1 : (sw : Int) * (F : Int) = (P : Int) := by rw [hP]; push_cast; rfl
  have q2 : (sw : Int) * (T : Int) = (P2 : Int) := by rw [hP2]; push_cast; rfl
  have q3 : P ≤ 65536 * 4096 := by rw [hP]; exact Nat.mul_le_mul (by omega) (by omega)
  have q4 : P2 ≤ 65536 * 4096 := by rw [hP2]; exact Nat.mul_le_mul (by omega) (by omega)
  obtain ⟨Qa, hQa⟩ : ∃ Qa, Qa = sw * F / N := ⟨_, rfl⟩
  obtain ⟨Qb, hQb⟩ : ∃ Qb, Qb = sw * T / N := ⟨_, rfl⟩
  have q5 : (P : Int) / (N : Int) = (Qa : Int) := by rw [hQa, hP]; exact (Int.natCast_ediv _ _).symm
  have q6 : (P2 : Int) / (N : Int) = (Qb : Int) := by rw [hQb, hP2]; exact (Int.natCast_ediv _ _).symm
  rw [← hQa, ← hQb] at hc3
  rw [← hQb] at hc4
  have HNR : Hid (narrow ⟨sl, sw, so, sb⟩ N F T = ⟨sl + Qa, Qb - Qa, so, sb⟩) := by
    show _ = _
    unfold narrow
    rw [hQa, hQb]
  have hw1 : 4 ≤ Qb - Qa := by
    have h4 := hc2
    rw [HNR.out] at h4
    exact h4
  have hN0 : ((N : Int) == 0) = false := beq_eq_false_iff_ne.2 (by omega)
  have q8 : IntKind.i64.wrap ((i : Int) + 1) = (i : Int) + 1 := IntWalk.i64_in _ (by have := hg.2.1; omega)
  have c0 := h.c0
  have c1 := h.c1
  have c3 := h.c3
  have htl := hg.2.1
  have H := Lib.hid h
  have hdi : decide (t.length ≤ i) = false := decide_eq_false (by omega)
  have hdi0 : decide ((i : Int) < 0) = false := decide_eq_false (by omega)
  clear h hr hb hs hc1 hc2 hP hP2 hQa hQb hF hT hN hz e1 e2 HT0 hg
  go_enter Try.func19, Try.ntmps19
  go_wp2_with (go_at_call 17; refine HT.out.mono ?_; rintro e w1 ⟨rfl, rfl⟩)
  go_quiet ((go_at_call 45; exact Calls.quiet_of_same (HFA.out _)))
  go_wp2
  obtain ⟨w4, hw4⟩ : ∃ w4, w4 = w1.drewN nq := ⟨_, rfl⟩
  rw [← hw4]
  have H4 : Hid (RCo w4 m sl sw so false sb v) := by rw [hw4]; exact H.out.drewN nq
  have HF4C : Hid (∀ k, (Calls Try.prog 45 #[.slice A t.length c, .int .i64 ((i : Int) + 1)] (w4.drewN k) fun e w' => e = .returned (.int .i64 (T : Int)) ∧ w' = (w4.drewN k))) := by rw [hw4]; exact fun k => HFC.out _ ((HR.out.drewN nq).drewN k)
  have HFR4 : Hid (Fr m v v w1 w4) := by rw [hw4]; exact (Fr.refl m v w1).drewN nq
  clear c0 c1 c3 hw4 HFC HFA
  have c0 := H4.out.c0
  have c1 := H4.out.c1
  go_quiet ((go_at_call 45; exact Calls.quiet_of_same (HF4C.out _)))
  have f0 := H4.out.fr 0
  have f1 := H4.out.fr 1
  go_wp2
  have HST : Hid (RCo (((w4.drewN nq).setCell ⟨m, 0, none⟩ (.int .i64 ((sl : Int) + Qa))).setCell ⟨m, 1, none⟩ (.int .i64 ((Qb : Int) - Qa))) m (sl + Qa) (Qb - Qa) so false sb v) := by
    have h5 := ((H4.out.drewN nq).s0 (sl + Qa)).s1 (Qb - Qa)
    rw [show ((sl + Qa : Nat) : Int) = (sl : Int) + Qa from by omega, show ((Qb - Qa : Nat) : Int) = (Qb : Int) - Qa from by omega] at h5
    exact h5
  have HFS : Hid (Fr m v v w1 (((w4.drewN nq).setCell ⟨m, 0, none⟩ (.int .i64 ((sl : Int) + Qa))).setCell ⟨m, 1, none⟩ (.int .i64 ((Qb : Int) - Qa)))) := ((HFR4.out.drewN nq).set 0 _).set 1 _
  obtain ⟨u0, hu0⟩ : ∃ u0, u0 = (⟨sl + Qa, Qb - Qa, so, sb⟩ : St) := ⟨_, rfl⟩
  have HU0 : Hid (cut t i ⟨sl, sw, so, sb⟩ = u0) := by show _ = _; rw [HC.out, HNR.out, hu0]
  obtain ⟨b0, hb0⟩ : ∃ b0, b0 = Qb - Qa := ⟨_, rfl⟩
  obtain ⟨a0, ha0⟩ : ∃ a0, a0 = sl + Qa := ⟨_, rfl⟩
  rw [← hb0, ← ha0] at HST hu0
  have hab : 1 ≤ b0 ∧ a0 + b0 ≤ 65536 := by omega
  have HR0 : Hid (runN 0 u0 = some ⟨a0, b0, so, sb⟩) := by show some u0 = _; rw [hu0]
  have HAB := Lib.hid hab
  have HN1 : Hid (sb.length + so + (65536 - b0) < 100000000) := by show _ < _; omega
  clear c0 c1 f0 f1 q1 q2 q3 q4 q5 q6 q8 hc3 hc4 hw1 hN0 hsw hsw1 hn hz2 hz3 hFN hTN htl H4 HF4C HFR4 hb0 ha0 hab hu0
  go_loopg [] (65536 - b0) (fun gk W => ∃ (k lo wd ow : Nat) (l : List Bool) (v2 : Value), gk = 65536 - wd ∧ l.length + ow + (65536 - wd) < 100000000 ∧ 1 ≤ wd ∧ lo + wd ≤ 65536 ∧ Hid (RCo W m lo wd ow false l v2) ∧ Hid (Fr m v v2 w1 W) ∧ Hid (runN k u0 = some ⟨lo, wd, ow, l⟩))
  case atStart => exact ⟨0, a0, b0, so, sb, v, rfl, HN1.out, HAB.out.1, HAB.out.2, HST, HFS, HR0⟩
  case round =>
    clear HST HFS HAB HN1
    obtain ⟨k, lo, wd, ow, l, v2, rfl, hnb, hwd1, hsum1, HRC, HF, HRN⟩ := hrel
    have k0 := HRC.out.c0
    have k1 := HRC.out.c1
    have f0 := HRC.out.fr 0
    have f1 := HRC.out.fr 1
    obtain ⟨sm, hsm⟩ : ∃ sm, sm = lo + wd := ⟨_, rfl⟩
    have hsum : (lo : Int) + (wd : Int) = (sm : Int) := by omega
    have HSM := Lib.hid hsm
    have HS1 := Lib.hid hsum1
    have hsmb : sm ≤ 65536 := by omega
    clear hsm hsum1
    by_cases a1 : (sm : Int) ≤ 32768
    · have HW : Hid (wd ≤ 32768 ∧ lo + wd ≤ 32768) := by have := HSM.out; show _ ∧ _; omega
      have HNX := Lib.hid (next0 lo wd ow l HW.out.2)
      have HTE := Lib.hid (fun j => rtell_any m lo wd ow false l v2 0 1 false rfl rfl (wr.drewN j) (HRC.out.drewN j) (by omega))
      go_wp2
      go_quiet (fail)
      go_wp2_with (go_at_call 46; refine (HTE.out _).mono ?_; rintro e w5 ⟨rfl, v5, h5, hf5⟩; have H5 := Lib.hid h5; have HF5 := Lib.hid hf5; have g0 := h5.c0; have g1 := h5.c1; have j0 := h5.fr 0; have j1 := h5.fr 1; clear h5 hf5)
      go_roundg (65536 - 2 * wd)
      case measure => have := HW.out; omega
      case rel =>
        refine ⟨k + 1, 2 * lo, 2 * wd, 0, _, v5, rfl, ?_, by omega, by have := HW.out; omega, ?_, ((HF.out.trans ((Fr.refl m v2 wr).drewN _ |>.trans HF5.out)).set 0 _).set 1 _, run_snoc HRN.out HNX.out⟩
        · have := HW.out
          simp
          omega
        · have h6 := (H5.out.s0 (2 * lo)).s1 (2 * wd)
          rw [show ((2 * lo : Nat) : Int) = (lo : Int) * 2 from by omega, show ((2 * wd : Nat) : Int) = (wd : Int) * 2 from by omega] at h6
          exact h6
    by_cases a2 : (32768 : Int) ≤ (lo : Int)
    · have HW : Hid (wd ≤ 32768 ∧ ¬ lo + wd ≤ 32768 ∧ 32768 ≤ lo) := by have := HSM.out; have := HS1.out; show _ ∧ _; omega
      have HNX := Lib.hid (next1 lo wd ow l HW.out.2.1 HW.out.2.2)
      have HTE := Lib.hid (fun j => rtell_any m lo wd ow false l v2 1 0 true rfl rfl (wr.drewN j) (HRC.out.drewN j) (by omega))
      go_wp2
      go_quiet (fail)
      go_wp2_with (go_at_call 46; refine (HTE.out _).mono ?_; rintro e w5 ⟨rfl, v5, h5, hf5⟩; have H5 := Lib.hid h5; have HF5 := Lib.hid hf5; have g0 := h5.c0; have g1 := h5.c1; have j0 := h5.fr 0; have j1 := h5.fr 1; clear h5 hf5)
      go_roundg (65536 - 2 * wd)
      case measure => have := HW.out; omega
      case rel =>
        refine ⟨k + 1, 2 * (lo - 32768), 2 * wd, 0, _, v5, rfl, ?_, by omega, by have := HW.out; have := HS1.out; omega, ?_, (((HF.out.trans ((Fr.refl m v2 wr).drewN _ |>.trans HF5.out)).set 0 _).set 0 _).set 1 _, run_snoc HRN.out HNX.out⟩
        · have := HW.out
          simp
          omega
        · have h6 := ((H5.out.s0 (lo - 32768)).s0 (2 * (lo - 32768))).s1 (2 * wd)
          rw [show ((2 * (lo - 32768) : Nat) : Int) = ((lo : Int) - 32768) * 2 from by omega, show ((2 * wd : Nat) : Int) = (wd : Int) * 2 from by omega, show (((lo - 32768) : Nat) : Int) = ((lo : Int) - 32768) from by omega] at h6
          exact h6
    by_cases a3 : (16384 : Int) ≤ (lo : Int)
    · by_cases a4 : (sm : Int) ≤ 49152
      · have HW : Hid (wd ≤ 32768 ∧ ¬ lo + wd ≤ 32768 ∧ ¬ 32768 ≤ lo ∧ 16384 ≤ lo ∧ lo + wd ≤ 49152) := by have := HSM.out; have := HS1.out; show _ ∧ _; omega
        have HNX := Lib.hid (next2 lo wd ow l HW.out.2.1 HW.out.2.2.1 HW.out.2.2.2)
        have HA3 := Lib.hid a3
        have hda1 : decide ((sm : Int) ≤ 32768) = false := decide_eq_false a1
        have hda2 : decide ((32768 : Int) ≤ (lo : Int)) = false := decide_eq_false a2
        have hd4 : decide ((sm : Int) ≤ 49152) = true := decide_eq_true a4
        have HD4 := Lib.hid hd4
        clear hd4 a4
        clear a1 a2 a3
        go_wp2
        go_quiet (fail)
        go_upto_region 15 with fail
        obtain ⟨wy, hwy⟩ : ∃ wy, wy = wr.drewN nq := ⟨_, rfl⟩
        rw [← hwy]
        have HY : Hid (RCo wy m lo wd ow false l v2) := by rw [hwy]; exact HRC.out.drewN nq
        have HFY : Hid (Fr m v v2 w1 wy) := by rw [hwy]; exact HF.out.drewN nq
        clear k0 k1 f0 f1 hwy
        have k0 := HY.out.c0
        have k1 := HY.out.c1
        have k2 := HY.out.c2
        have f0 := HY.out.fr 0
        have f1 := HY.out.fr 1
        have f2 := HY.out.fr 2
        have hd : decide ((16384 : Int) ≤ (lo : Int)) = true := decide_eq_true HA3.out
        have hd4 := HD4.out
        go_quiet (fail)
        go_wp2
        go_roundg (65536 - 2 * wd)
        case measure => have := HW.out; omega
        case rel =>
          refine ⟨k + 1, 2 * (lo - 16384), 2 * wd, ow + 1, l, v2, rfl, by have := HW.out; omega, by omega, by have := HW.out; have := HS1.out; omega, ?_, ((((HFY.out.drewN nq).set 2 _).set 0 _).set 0 _).set 1 _, run_snoc HRN.out HNX.out⟩
          have hlo := HW.out.2.2.2.1
          have h6 := ((((HY.out.drewN nq).s2 (ow + 1)).s0 (lo - 16384)).s0 (2 * (lo - 16384))).s1 (2 * wd)
          rw [show ((2 * (lo - 16384) : Nat) : Int) = ((lo : Int) - 16384) * 2 from by omega, show ((2 * wd : Nat) : Int) = (wd : Int) * 2 from by omega, show (((lo - 16384) : Nat) : Int) = ((lo : Int) - 16384) from by omega] at h6
          exact h6
      · have HO : Hid (offOf ⟨lo, wd, ow, l⟩ = none) := (if_neg (show ¬ lo + wd ≤ 32768 by have := HSM.out; omega)).trans ((if_neg (show ¬ 32768 ≤ lo by omega)).trans (if_neg (show ¬ (16384 ≤ lo ∧ lo + wd ≤ 49152) by have := HSM.out; omega)))
        have HA3 := Lib.hid a3
        have hda1 : decide ((sm : Int) ≤ 32768) = false := decide_eq_false a1
        have hda2 : decide ((32768 : Int) ≤ (lo : Int)) = false := decide_eq_false a2
        have hd4 : decide ((sm : Int) ≤ 49152) = false := decide_eq_false a4
        have HD4 := Lib.hid hd4
        clear hd4 a4
        clear a1 a2 a3
        go_wp2
        go_quiet (fail)
        go_upto_region 15 with fail
        obtain ⟨wy, hwy⟩ : ∃ wy, wy = wr.drewN nq := ⟨_, rfl⟩
        rw [← hwy]
        have HY : Hid (RCo wy m lo wd ow false l v2) := by rw [hwy]; exact HRC.out.drewN nq
        have HFY : Hid (Fr m v v2 w1 wy) := by rw [hwy]; exact HF.out.drewN nq
        clear k0 k1 f0 f1 hwy
        have k0 := HY.out.c0
        have k1 := HY.out.c1
        have hd : decide ((16384 : Int) ≤ (lo : Int)) = true := decide_eq_true HA3.out
        have hd4 := HD4.out
        go_quiet (fail)
        go_wp2
        go_ret
        exact ⟨rfl, k, ⟨lo, wd, ow, l⟩, v2, ⟨by rw [HU0.out]; exact HRN.out, HO.out⟩, HY.out.drewN _, HFY.out.drewN _⟩
    · have HO : Hid (offOf ⟨lo, wd, ow, l⟩ = none) := (if_neg (show ¬ lo + wd ≤ 32768 by have := HSM.out; omega)).trans ((if_neg (show ¬ 32768 ≤ lo by omega)).trans (if_neg (show ¬ (16384 ≤ lo ∧ lo + wd ≤ 49152) by omega)))
      have HA3 := Lib.hid a3
      have hda1 : decide ((sm : Int) ≤ 32768) = false := decide_eq_false a1
      have hda2 : decide ((32768 : Int) ≤ (lo : Int)) = false := decide_eq_false a2
      clear a1 a2 a3
      go_wp2
      go_quiet (fail)
      go_upto_region 15 with fail
      obtain ⟨wy, hwy⟩ : ∃ wy, wy = wr.drewN nq := ⟨_, rfl⟩
      rw [← hwy]
      have HY : Hid (RCo wy m lo wd ow false l v2) := by rw [hwy]; exact HRC.out.drewN nq
      have HFY : Hid (Fr m v v2 w1 wy) := by rw [hwy]; exact HF.out.drewN nq
      clear k0 k1 f0 f1 hwy
      have k0 := HY.out.c0
      have k1 := HY.out.c1
      have hd : decide ((16384 : Int) ≤ (lo : Int)) = false := decide_eq_false (by have := HA3.out; omega)
      go_quiet (fail)
      go_wp2
      go_ret
      exact ⟨rfl, k, ⟨lo, wd, ow, l⟩, v2, ⟨by rw [HU0.out]; exact HRN.out, HO.out⟩, HY.out.drewN _, HFY.out.drewN _⟩
end Go.Proofs.Ytikjolinendfgaa.Ari
