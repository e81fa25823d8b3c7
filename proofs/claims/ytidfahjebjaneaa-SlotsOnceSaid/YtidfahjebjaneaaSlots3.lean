/- The walks of slots.Comes, of its reference, and of slots.Events. -/
import Derived.Test.YtidfahjebjaneaaSlots2
import Derived.Test.YtidfahjebjaneaaPSlotsEventsx1
set_option linter.unusedVariables false
set_option linter.unusedSimpArgs false
namespace Go.Proofs.Ytidfahjebjaneaa.Slt
open Go.RowKit Go.Proofs.YtidfahjebjaneaaW.PrintWords Go.Proofs.YtidfahjebjaneaaW.PrintLast Go.Proofs.YtidfahjebjaneaaW.PrintMore Go.Proofs.Ytidfahjebjaneaa.PSlotsTurns
open Go.Proofs.Ytidfahjebjaneaa.PSlotsEvents (rd_L1 at_L1)

def lossB (ls : List (List Int)) (i s : Int) : Bool := decide ((ls.length : Int) ≤ i) || (decide (((rd_L1 ls i).length : Int) ≤ s) || rd (rd_L1 ls i) s != 0)
theorem loss_f (ls : List (List Int)) (i s : Int) (hi : 0 ≤ i) (hs : 0 ≤ s) : PSlotsEvents.slots_loss.f ls i s = some (lossB ls i s) := by
  unfold PSlotsEvents.slots_loss.f lossB
  by_cases h1 : i ≥ (ls.length : Int)
  · rw [if_pos h1, decide_eq_true h1]; rfl
  · rw [if_neg h1, decide_eq_false h1, if_pos hi, if_pos (by omega)]
    by_cases h2 : s ≥ ((rd_L1 ls i).length : Int)
    · rw [if_pos h2, decide_eq_true h2]; rfl
    · rw [if_neg h2, decide_eq_false h2, if_pos hs, if_pos (by omega)]; rfl
/-- does a chance come -/
def hitB (k stop : Int) (ls : List (List Int)) (q : Nat × Nat) : Bool := decide (k + (q.1 : Int) < stop) && !lossB ls (k + (q.1 : Int)) q.2
def comesB (S F k stop : Int) (ls : List (List Int)) : Bool := (ps S F).any (hitB k stop ls)

abbrev Lss (w : World) (A : Option Addr) (ls : List (List Int)) : Prop := Kd.C (Kd.slice 3 (Kd.int .i64)) w A ls.length ls

theorem loss_c (ls : List (List Int)) (A : Option Addr) (c : Nat) (i s : Int) (hi : 0 ≤ i) (hs : 0 ≤ s) (w : World) (hr : Lss w A ls) (hc : ls.length ≤ c) :
    Calls Try.prog 50 #[.slice A ls.length c, .agg #[.int .i64 i, .int .i64 s]] w fun e w' => e = .returned (.bool (lossB ls i s)) ∧ Below w.heap.size w w' :=
  PSlotsEvents.slots_loss.calls A c ls i s _ w hr hc (loss_f ls i s hi hs)
theorem may_yes {S F k : Int} (h : Link S F) (hk : 0 ≤ k ∧ k < 16777216) (w : World) : Calls Try.prog 45 #[.agg #[.int .i64 S, .int .i64 F], .int .i64 k] w fun e w' => e = .returned (.int .i64 0) ∧ Below w.heap.size w w' :=
  slots_may.calls S F k 0 w (by rw [may_f, if_pos ⟨h, hk⟩])
theorem may_no {S F k : Int} (h : ¬ (Link S F ∧ 0 ≤ k ∧ k < 16777216)) (w : World) : Calls Try.prog 45 #[.agg #[.int .i64 S, .int .i64 F], .int .i64 k] w fun e w' => e = .returned (.int .i64 1) ∧ Below w.heap.size w w' :=
  slots_may.calls S F k 1 w (by rw [may_f, if_neg h])
def Row48 (S F k : Int) (w : World) (e : Ending) (w' : World) : Prop := ∃ v, e = .returned v ∧ Kd.R k48 48 w' w.heap.size (fun _ => True) v ((ps S F).map fun q => P48 k.toNat q.1 q.2) ∧ Below w.heap.size w w'
theorem chances_c {S F k : Int} (h : Link S F) (hk : 0 ≤ k ∧ k < 16777216) (w : World) : Calls Try.prog 46 #[.agg #[.int .i64 S, .int .i64 F], .int .i64 k] w (Row48 S F k w) := by
  obtain ⟨s, f, rfl, rfl, h1, h2, h3⟩ := h.nat
  obtain ⟨n, rfl⟩ := Int.eq_ofNat_of_zero_le hk.1
  obtain ⟨K, hK⟩ := chances_f h1 h2 h3 (show n < 16777216 by omega)
  rw [ch_same] at hK
  exact (slots_chances.calls K s f n _ w hK).mono fun e w' h => h
theorem ps_len {S F : Int} (h : Link S F) : (ps S F).length ≤ 16 ∧ ∀ q ∈ ps S F, q.1 < 8 ∧ q.2 < 16 := by
  obtain ⟨s, f, rfl, rfl, h1, h2, h3⟩ := h.nat
  have := pairs_in h1 h2 h3
  refine ⟨Nat.le_trans this.1 h1, fun q hq => ?_⟩
  have := this.2 q hq
  omega
theorem rd48 (l : List (Nat × Nat)) (k n : Nat) (h : n < l.length) : (rd_T48 (l.map fun q => P48 k q.1 q.2) n).f0 = (k : Int) + (l[n].1 : Nat) ∧ (rd_T48 (l.map fun q => P48 k q.1 q.2) n).f1 = (l[n].2 : Nat) := by
  unfold rd_T48
  rw [Int.toNat_natCast, List.getD_eq_getElem?_getD, List.getElem?_map, List.getElem?_eq_getElem h]
  exact ⟨rfl, rfl⟩
theorem any_take {α : Type} (l : List α) (p : α → Bool) (n : Nat) (h : n < l.length) : (l.take (n + 1)).any p = ((l.take n).any p || p l[n]) := by
  rw [List.take_succ_eq_append_getElem h, List.any_append]; simp
theorem any_hit {α : Type} (l : List α) (p : α → Bool) (n : Nat) (h : n < l.length) (hp : p l[n] = true) : l.any p = true := List.any_eq_true.2 ⟨_, List.getElem_mem h, hp⟩

set_option maxRecDepth 100000 in
set_option maxHeartbeats 1000000 in
theorem comes_c (S F k stop : Int) (ls : List (List Int)) (A : Option Addr) (c : Nat) (hL : Link S F) (hk : 0 ≤ k ∧ k < 16777216) (hst : 0 ≤ stop ∧ stop ≤ 4096) (w : World) (hr : Lss w A ls) (hc : ls.length ≤ c) :
    Calls Try.prog 36 #[.agg #[.int .i64 S, .int .i64 F], .int .i64 k, .int .i64 stop, .slice A ls.length c] w fun e w' => e = .returned (.tuple #[.bool (comesB S F k stop ls), .int .i64 0]) ∧ Below w.heap.size w w' := by
  obtain ⟨s0, s1⟩ := hst
  have HR := Lib.hid hr
  clear hr
  go_enter Try.func36, Try.ntmps36
  go_wp2_with fail
  refine (may_yes hL hk _).mono ?_
  rintro e w1 ⟨rfl, hb1⟩
  have hbox := Box2.keep (Box2.init w (.int .i64 S) (.int .i64 F) 34) hb1
  obtain ⟨⟨c0, c1⟩, hb, hlt⟩ := id hbox
  clear hb1
  go_wp2_with fail
  refine (chances_c hL hk _).mono ?_
  rintro e w2 ⟨v1, rfl, hR1, hb2⟩
  have hbb := bt hb hb2
  clear hb2 hbox hb hlt c0 c1
  obtain ⟨A1, d1, rfl, -, hC1⟩ := Kd.R_reads hR1
  have l1 : ((ps S F).map fun q => P48 k.toNat q.1 q.2).length = (ps S F).length := List.length_map ..
  rw [l1] at hC1 ⊢
  obtain ⟨m, hm⟩ : ∃ m, m = (ps S F).length := ⟨_, rfl⟩
  have hps := ps_len hL
  rw [← hm] at hC1 hps ⊢
  have HM := Lib.hid hm
  have HPS := Lib.hid hps.2
  have hm16 := hps.1
  clear hm l1 hR1 hps
  go_wp2
  go_loopg [28] m (fun g x wr => ∃ n : Nat, n ≤ m ∧ g = m - n ∧ x = .int .i64 n ∧ Hid (((ps S F).take n).any (hitB k stop ls) = false) ∧ Below w2.heap.size w2 wr)
  case atStart => exact ⟨0, by omega, by omega, rfl, rfl, br _⟩
  case round =>
    obtain ⟨n, hn, rfl, rfl, HF, hbw⟩ := hrel
    by_cases hlt' : n < m
    · have hnl : n < (ps S F).length := by rw [← HM.out]; exact hlt'
      obtain ⟨ad1, rfl, x1, x2⟩ := at_T48 (Kd.C_below hC1 hbw) (n : Int) (by omega) (by omega)
      rw [Int.toNat_natCast] at x1 x2
      have r48 := rd48 (ps S F) k.toNat n hnl
      rw [Int.toNat_of_nonneg hk.1] at r48
      rw [r48.1] at x1
      rw [r48.2] at x2
      have hq := HPS.out _ (List.getElem_mem hnl)
      have HAT := Lib.hid (any_take (ps S F) (hitB k stop ls) n hnl)
      have HHIT := Lib.hid (any_hit (ps S F) (hitB k stop ls) n hnl)
      generalize (ps S F)[n] = q at *
      obtain ⟨q1, q2⟩ := q
      have hq1 : q1 < 8 := hq.1
      have hq2 : q2 < 16 := hq.2
      clear hq r48 hnl
      simp only at x1 x2
      have HH : hitB k stop ls (q1, q2) = (decide (k + (q1 : Int) < stop) && !lossB ls (k + (q1 : Int)) q2) := rfl
      by_cases h1 : k + (q1 : Int) < stop
      · rw [decide_eq_true h1, Bool.true_and] at HH
        cases hlb : lossB ls (k + (q1 : Int)) q2 with
        | true =>
          rw [hlb] at HH
          rw [HH, HF.out] at HAT
          have HB := Lib.hid hlb
          clear HH hlb HHIT
          go_wp2_with (go_at_call 50; refine (loss_c ls _ _ _ _ (by omega) (by omega) _ (Kd.C_below HR.out (bt (bt hbb hbw) (ba (br _) _))) hc).mono ?_; rintro e w4 ⟨rfl, hb4⟩; rw [HB.out])
          go_roundg (m - (n + 1))
          case measure => omega
          case rel => exact ⟨n + 1, by omega, rfl, by go_num, HAT, bt (ba hbw _) hb4⟩
        | false =>
          rw [hlb] at HH
          have HC : Hid (comesB S F k stop ls = true) := HHIT.out HH
          have HB := Lib.hid hlb
          clear HH hlb HHIT HAT
          go_wp2_with (go_at_call 50; refine (loss_c ls _ _ _ _ (by omega) (by omega) _ (Kd.C_below HR.out (bt (bt hbb hbw) (ba (br _) _))) hc).mono ?_; rintro e w4 ⟨rfl, hb4⟩; rw [HB.out])
          go_ret2
          exact ⟨by rw [HC.out]; rfl, bt hbb (bt (ba hbw _) hb4)⟩
      · rw [decide_eq_false h1, Bool.false_and] at HH
        rw [HH, HF.out] at HAT
        clear HH HHIT
        go_wp2
        go_roundg (m - (n + 1))
        case measure => omega
        case rel => exact ⟨n + 1, by omega, rfl, by go_num, HAT, ba hbw _⟩
    · have hnm : n = m := by omega
      have HC : Hid (comesB S F k stop ls = false) := by
        have := HF.out
        rw [hnm, HM.out, List.take_length] at this
        exact this
      clear hnm
      go_wp2
      go_ret2
      exact ⟨by rw [HC.out]; rfl, bt hbb hbw⟩

theorem rd47 (l : List (Nat × Nat)) (k n : Nat) (h : n < l.length) : (rd_T47 (l.map fun q => P47 k q.1 q.2) n).f0 = (k : Int) + (l[n].1 : Nat) ∧ (rd_T47 (l.map fun q => P47 k q.1 q.2) n).f1 = (l[n].2 : Nat) := by
  unfold rd_T47
  rw [Int.toNat_natCast, List.getD_eq_getElem?_getD, List.getElem?_map, List.getElem?_eq_getElem h]
  exact ⟨rfl, rfl⟩
theorem hit_eq (k stop : Int) (ls : List (List Int)) (q1 q2 : Nat) : hitB k stop ls (q1, q2) =
    (decide (k + (q1 : Int) < stop) && (decide (k + (q1 : Int) < ls.length) && (decide ((q2 : Int) < (rd_L1 ls (k + (q1 : Int))).length) && (rd (rd_L1 ls (k + (q1 : Int))) q2 == 0)))) := by
  unfold hitB lossB
  simp only
  congr 1
  have e1 : decide ((ls.length : Int) ≤ k + (q1 : Int)) = !decide (k + (q1 : Int) < ls.length) := by rw [Bool.eq_iff_iff]; simp
  have e2 : decide (((rd_L1 ls (k + (q1 : Int))).length : Int) ≤ q2) = !decide ((q2 : Int) < (rd_L1 ls (k + (q1 : Int))).length) := by rw [Bool.eq_iff_iff]; simp
  rw [e1, e2]
  cases decide (k + (q1 : Int) < ls.length) <;> cases decide ((q2 : Int) < (rd_L1 ls (k + (q1 : Int))).length) <;> simp [bne]

set_option maxRecDepth 100000 in
set_option maxHeartbeats 2000000 in
theorem rcomes_c (S F k stop : Int) (ls : List (List Int)) (A : Option Addr) (c : Nat) (hL : Link S F) (hk : 0 ≤ k ∧ k < 16777216) (hst : 0 ≤ stop ∧ stop ≤ 4096) (w : World) (hr : Lss w A ls) (hc : ls.length ≤ c) :
    Calls Try.prog 38 #[.agg #[.int .i64 S, .int .i64 F], .int .i64 k, .int .i64 stop, .slice A ls.length c] w fun e w' => e = .returned (.bool (comesB S F k stop ls)) ∧ Below w.heap.size w w' := by
  obtain ⟨s0, s1⟩ := hst
  have HR := Lib.hid hr
  clear hr
  go_enter Try.func38, Try.ntmps38
  go_wp2_with fail
  refine (rchances_yes hL hk _).mono ?_
  rintro e w2 ⟨v1, rfl, hR1, hb2⟩
  have hbb := bt (ba (br w) _) hb2
  clear hb2
  obtain ⟨A1, d1, rfl, -, hC1⟩ := Kd.R_reads hR1
  have l1 : ((ps S F).map fun q => P47 k.toNat q.1 q.2).length = (ps S F).length := List.length_map ..
  rw [l1] at hC1 ⊢
  obtain ⟨m, hm⟩ : ∃ m, m = (ps S F).length := ⟨_, rfl⟩
  have hps := ps_len hL
  rw [← hm] at hC1 hps ⊢
  have HM := Lib.hid hm
  have HPS := Lib.hid hps.2
  have hm16 := hps.1
  clear hm l1 hR1 hps
  go_wp2
  go_loopg [10] m (fun g x wr => ∃ n : Nat, n ≤ m ∧ g = m - n ∧ x = .int .i64 n ∧ Hid (((ps S F).take n).any (hitB k stop ls) = false) ∧ Below w2.heap.size w2 wr)
  case atStart => exact ⟨0, by omega, by omega, rfl, rfl, br _⟩
  case round =>
    obtain ⟨n, hn, rfl, rfl, HF, hbw⟩ := hrel
    by_cases hlt' : n < m
    · have hnl : n < (ps S F).length := by rw [← HM.out]; exact hlt'
      obtain ⟨ad1, rfl, x1, x2⟩ := at_T47 (Kd.C_below hC1 hbw) (n : Int) (by omega) (by omega)
      rw [Int.toNat_natCast] at x1 x2
      have r48 := rd47 (ps S F) k.toNat n hnl
      rw [Int.toNat_of_nonneg hk.1] at r48
      rw [r48.1] at x1
      rw [r48.2] at x2
      have hq := HPS.out _ (List.getElem_mem hnl)
      have HAT := Lib.hid (any_take (ps S F) (hitB k stop ls) n hnl)
      have HHIT := Lib.hid (any_hit (ps S F) (hitB k stop ls) n hnl)
      generalize (ps S F)[n] = q at *
      obtain ⟨q1, q2⟩ := q
      have hq1 : q1 < 8 := hq.1
      have hq2 : q2 < 16 := hq.2
      clear hq r48 hnl
      simp only at x1 x2
      have HH := hit_eq k stop ls q1 q2
      have g0 : IntKind.i64.wrap (k + (q1 : Int)) = k + (q1 : Int) := IntWalk.i64_in _ (by omega)
      obtain ⟨i, hi⟩ : ∃ i : Int, i = k + (q1 : Int) := ⟨_, rfl⟩
      have hi0 : 0 ≤ i := by omega
      rw [← hi] at HH x1
      clear g0 hi
      by_cases h1 : i < stop
      · have b1 := decide_eq_true h1
        by_cases h2 : i < ls.length
        · have b2 := decide_eq_true h2
          obtain ⟨ad2, A0, c0, rfl, y1, y2, hC2⟩ := at_L1 (Kd.C_below HR.out (bt hbb hbw)) i hi0 h2
          have y1' := fun o => pw_cell_below (ba (br wr) o) y1
          clear y1
          by_cases h3 : (q2 : Int) < (rd_L1 ls i).length
          · have b3 := decide_eq_true h3
            obtain ⟨ad3, rfl, z1⟩ := Kd.at_int hC2 (q2 : Int) (by omega) h3
            rw [Int.toNat_natCast] at z1
            have z1' := fun o => pw_cell_below (ba (br wr) o) z1
            clear z1
            cases h4 : (rd (rd_L1 ls i) q2 == 0) with
            | true =>
              rw [b1, b2, b3, h4] at HH
              have HC : Hid (comesB S F k stop ls = true) := HHIT.out HH
              clear HH HHIT HAT hC2
              go_wp2
              go_quiet (fail)
              go_wp2
              go_ret
              exact ⟨by rw [HC.out]; rfl, bt hbb (pw_below_drewN (ba hbw _) _)⟩
            | false =>
              rw [b1, b2, b3, h4] at HH
              have HH' : hitB k stop ls (q1, q2) = false := HH
              rw [HH', HF.out] at HAT
              clear HH HH' HHIT hC2
              go_wp2
              go_quiet (fail)
              go_wp2
              go_roundg (m - (n + 1))
              case measure => omega
              case rel => exact ⟨n + 1, by omega, rfl, by go_num, HAT, pw_below_drewN (ba hbw _) _⟩
          · have b3 := decide_eq_false h3
            rw [b1, b2, b3, Bool.false_and, Bool.and_false, Bool.and_false] at HH
            rw [HH, HF.out] at HAT
            have b3' : decide (q2 < (rd_L1 ls i).length) = false := decide_eq_false (by omega)
            clear HH HHIT hC2
            go_wp2
            go_quiet (fail)
            go_wp2
            go_roundg (m - (n + 1))
            case measure => omega
            case rel => exact ⟨n + 1, by omega, rfl, by go_num, HAT, pw_below_drewN (ba hbw _) _⟩
        · have b2 := decide_eq_false h2
          rw [b1, b2, Bool.false_and, Bool.and_false] at HH
          rw [HH, HF.out] at HAT
          clear HH HHIT
          go_wp2
          go_quiet (fail)
          go_wp2
          go_roundg (m - (n + 1))
          case measure => omega
          case rel => exact ⟨n + 1, by omega, rfl, by go_num, HAT, pw_below_drewN (ba hbw _) _⟩
      · have b1 := decide_eq_false h1
        rw [b1, Bool.false_and] at HH
        rw [HH, HF.out] at HAT
        clear HH HHIT
        go_wp2
        go_quiet (fail)
        go_wp2
        go_roundg (m - (n + 1))
        case measure => omega
        case rel => exact ⟨n + 1, by omega, rfl, by go_num, HAT, pw_below_drewN (ba hbw _) _⟩
    · have hnm : n = m := by omega
      have HC : Hid (comesB S F k stop ls = false) := by
        have := HF.out
        rw [hnm, HM.out, List.take_length] at this
        exact this
      clear hnm
      go_wp2
      go_ret
      exact ⟨by rw [HC.out]; rfl, bt hbb hbw⟩
end Go.Proofs.Ytidfahjebjaneaa.Slt
