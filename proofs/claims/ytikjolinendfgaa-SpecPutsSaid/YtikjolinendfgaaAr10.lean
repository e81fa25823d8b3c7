/- The walk of the package arith: Get of a finder. -/
import Derived.Test.YtikjolinendfgaaAr9
set_option linter.unusedVariables false
set_option linter.unusedSimpArgs false
namespace Go.Proofs.Ytikjolinendfgaa.Ari
open Go.RowKit Go.Proofs.YtikjolinendfgaaW.PrintWords Go.Proofs.YtikjolinendfgaaW.PrintLast Go.Proofs.YtikjolinendfgaaW.PrintMore Go.Proofs.Ytikjolinendfgaa.Bit

/-- what Get leaves -/
def Got (f : Nat) (ep : Option Addr) (fr : Nat) (B : Nat → Nat) (w0 : World) (s : Fs) (t : List Int) (i : Nat) (w' : World) : Prop :=
  i < t.length ∧ (t.take i).sum.toNat ≤ keyF s t.sum.toNat ∧ keyF s t.sum.toNat < (t.take (i + 1)).sum.toNat ∧ ∃ k s', runF B fr k (narF s t.sum.toNat (t.take i).sum.toNat (t.take (i + 1)).sum.toNat) = some s' ∧ offL s'.lo s'.wd = none ∧ FS f ep fr B w0 s' w'
set_option maxRecDepth 100000 in
set_option maxHeartbeats 2000000 in
theorem get_ok (f : Nat) (ep : Option Addr) (fr : Nat) (B : Nat → Nat) (w0 : World) (s : Fs) (A : Option Addr) (n c : Nat) (t : List Int) (w : World) (h : FS f ep fr B w0 s w) (hi : InF s) (hr : ReadsInt w .i64 A n t) (hc : n ≤ c) (hb : ∀ x ∈ t, -9223372036854775808 ≤ x ∧ x ≤ 9223372036854775807) (hg : Good t) (h1 : fr ≤ 100000000) (h2 : s.rd ≤ 1000000) (hfar : ∀ ad, A = some ad → ad.block ≠ f) :
    Calls Try.prog 27 #[.pointer (some ⟨f, 0, none⟩), .slice A n c] w fun e w' => ∃ i : Nat, e = .returned (.tuple #[.int .i64 i, .int .i64 0]) ∧ Got f ep fr B w0 s t i w' := by
  obtain rfl := hr.1
  have c0 : w.cell? ⟨f, 0, none⟩ = some (.int .i64 s.lo) := (blk_cell h.at_ 0).trans rfl
  have c5 : w.cell? ⟨f, 5, none⟩ = some (.int .i64 s.va) := (blk_cell h.at_ 5).trans rfl
  obtain ⟨hz, hz2, hz3⟩ := total_in hg
  have HT0 := total_any A t.length c t w hr hb
  rw [hz] at HT0
  obtain ⟨N, hN⟩ := Int.eq_ofNat_of_zero_le (show 0 ≤ t.sum by omega)
  rw [hN] at HT0 hz2 hz3
  have HT := Lib.hid HT0
  have HW := Lib.hid (fun i => width_any f s.lo s.wd (w.drewN i) (Fn.span h s.lo s.wd rfl rfl) hi.2.1 hi.1)
  have hKN : keyF s N < N := keyF_lt hi (by omega)
  obtain ⟨i1, i2, i3, i4⟩ := hi
  have HPR := Lib.hid (fun i (hi : i < t.length) => hg.pre i hi)
  have HTS := Lib.hid (fun i (hi : i < t.length) => sum_take_succ t i hi)
  have HNN : Hid (t.sum = N) := hN
  have HR := Lib.hid hr
  have HNA := Lib.hid (fun (k i : Nat) (hk : i < t.length) (F T : Nat) (hF : (t.take i).sum = F) (hT : (t.take (i + 1)).sum = T) => narrow_any f s.lo s.wd A t.length c t i (w.drewN k) (Fn.span (h.drewN k) s.lo s.wd rfl rfl) i2 i1 (hr.drewN k) hc hg hk F T N hF hT hN hfar)
  have HNF := Lib.hid (fun (F T : Nat) (h3 : F ≤ keyF s N) (h4 : keyF s N < T) (h5 : T ≤ N) => narF_in (s := s) ⟨i1, i2, i3, i4⟩ (show 1 ≤ N by omega) h3 h4 h5)
  have HFS := Lib.hid h
  have HSL := Lib.hid (fun i => (sum_take_le hg.2.2.1 i).2)
  obtain ⟨v, hv⟩ : ∃ v, v = s.va - s.lo := ⟨_, rfl⟩
  have hvl : (s.va : Int) - (s.lo : Int) = (v : Int) := by omega
  obtain ⟨M, hM⟩ : ∃ M, M = (v + 1) * N := ⟨_, rfl⟩
  have m1 : ((v : Int) + 1) * (N : Int) = (M : Int) := by rw [hM]; push_cast; rfl
  have hM1 : 1 ≤ M := by rw [hM]; exact Nat.mul_le_mul (show 1 ≤ v + 1 by omega) (show 1 ≤ N by omega)
  have hM2 : M ≤ 65536 * 4096 := by rw [hM]; exact Nat.mul_le_mul (by omega) (by omega)
  obtain ⟨K, hK⟩ : ∃ K, K = keyF s N := ⟨_, rfl⟩
  have d1 : ((M : Int) - 1) / (s.wd : Int) = (K : Int) := by
    rw [show (M : Int) - 1 = ((M - 1 : Nat) : Int) from by omega, ← Int.natCast_ediv, hK, hM, hv]
    rfl
  rw [← hK] at hKN HNF
  have HK := Lib.hid hK
  have hwd0 : ((s.wd : Int) == 0) = false := beq_eq_false_iff_ne.2 (by omega)
  have hN0 : ((N : Int) == 0) = false := beq_eq_false_iff_ne.2 (by omega)
  have htl := hg.2.1
  have htl1 := hg.1
  clear hz hN hM hK hv h hr hb hg HT0
  go_enter Try.func27, Try.ntmps27
  go_wp2_with (go_at_call 41; refine HT.out.mono ?_; rintro e w1 ⟨rfl, rfl⟩)
  go_quiet ((go_at_call 51; exact Calls.quiet_of (HW.out _)))
  go_wp2
  go_loopg [7, 8] t.length (fun gk x y W => ∃ (i S : Nat), i < t.length ∧ S ≤ K ∧ gk = t.length - i ∧ x = .int .i64 ((K : Int) - S) ∧ y = .int .i64 i ∧ Hid ((t.take i).sum = S) ∧ Hid (∃ j, W = w1.drewN j))
  case atStart => exact ⟨0, 0, by omega, by omega, rfl, by rw [d1]; simp, rfl, by show (t.take 0).sum = _; simp, ⟨nq, rfl⟩⟩
  case round =>
    obtain ⟨i, S, hil, hSK, rfl, rfl, rfl, HS, HWj⟩ := hrel
    have HRW : Hid (ReadsInt wr .i64 A t.length t) := by
      obtain ⟨j, e⟩ := HWj.out
      rw [e]
      exact HR.out.drewN j
    obtain ⟨ad, rfl, y⟩ := HRW.out.at_ (i : Int) (by omega) (by omega)
    rw [Int.toNat_natCast] at y
    obtain ⟨p1, p2⟩ := HPR.out i hil
    have hT2 := HTS.out i hil
    obtain ⟨x, hx⟩ := Int.eq_ofNat_of_zero_le (show 0 ≤ rd t (i : Int) by omega)
    rw [hx] at y p1 p2 hT2
    rw [HS.out] at p2 hT2
    have HT2 : Hid ((t.take (i + 1)).sum = ((S + x : Nat) : Int)) := by show _ = _; rw [hT2]; push_cast; rfl
    have hTN : S + x ≤ N := by have h1 := HSL.out (i + 1); rw [HT2.out, HNN.out] at h1; omega
    have HLast : Hid (i + 1 = t.length → S + x = N) := fun e => by
      have h1 := HT2.out
      rw [e, List.take_length, HNN.out] at h1
      omega
    clear hx hT2
    by_cases hge : (x : Int) ≤ (K : Int) - (S : Int)
    · have hlt2 : i + 1 < t.length := by
        rcases Nat.lt_or_ge (i + 1) t.length with h | h
        · exact h
        · have := HLast.out (by omega); omega
      go_wp2
      go_roundg (t.length - (i + 1))
      case measure => omega
      case rel => exact ⟨i + 1, S + x, hlt2, by omega, rfl, by go_num, by go_num, HT2, HWj⟩
    · have HN2 := Lib.hid (HNF.out S (S + x) hSK (by omega) hTN)
      obtain ⟨j, hj⟩ := HWj.out
      have HNB := Lib.hid (HNA.out j i hil S (S + x) HS.out HT2.out)
      rw [← hj] at HNB
      have HFW : Hid (FS f ep fr B w0 s wr) := by rw [hj]; exact HFS.out.drewN j
      have HNS : Hid (∀ k2, FS f ep fr B w0 (narF s N S (S + x)) (((wr.drewN k2).setCell ⟨f, 1, none⟩ (.int .i64 ((s.lo : Int) + ((s.wd * (S + x) / N : Nat) : Int) - 1))).setCell ⟨f, 0, none⟩ (.int .i64 ((s.lo + s.wd * S / N : Nat) : Int)))) := by
        intro k2
        have k3 := ((HFW.out.drewN k2).s1 ((s.lo : Int) + ((s.wd * (S + x) / N : Nat) : Int) - 1)).s0 ((s.lo + s.wd * S / N : Nat) : Int)
        unfold FS
        rw [show (((narF s N S (S + x)).lo : Int) + (narF s N S (S + x)).wd - 1) = (s.lo : Int) + ((s.wd * (S + x) / N : Nat) : Int) - 1 from by
          show ((s.lo + s.wd * S / N : Nat) : Int) + ((s.wd * (S + x) / N - s.wd * S / N : Nat) : Int) - 1 = _
          have := HN2.out.2.1
          omega]
        exact k3
      clear hj HWj
      go_wp2_with (first
        | (go_at_call 42; refine HNB.out.mono ?_; rintro e w2 ⟨rfl, k2, rfl⟩)
        | (go_at_call 43; refine (widen_finder f ep fr B w0 (narF s N S (S + x)) _ (HNS.out _) HN2.out.1 h1 h2).mono ?_; rintro e w3 ⟨rfl, k, s', k1, k2', k3⟩; have HE := Lib.hid (And.intro k1 (And.intro k2' k3)); clear k1 k2' k3))
      go_ret2
      refine ⟨i, rfl, hil, ?_, ?_, k, s', ?_, HE.out.2.1, HE.out.2.2⟩
      · rw [HS.out, HNN.out, Int.toNat_natCast, Int.toNat_natCast, ← HK.out]; exact hSK
      · rw [HT2.out, HNN.out, Int.toNat_natCast, Int.toNat_natCast, ← HK.out]; omega
      · rw [HS.out, HT2.out, HNN.out, Int.toNat_natCast, Int.toNat_natCast, Int.toNat_natCast]; exact HE.out.1
end Go.Proofs.Ytikjolinendfgaa.Ari
