/- The walk of the statement QueuePlays. -/
import Derived.Test.YtidfahjebjaneaaQueue6
set_option linter.unusedVariables false
set_option linter.unusedSimpArgs false
namespace Go.Proofs.Ytidfahjebjaneaa.Que
open Go.RowKit Go.Proofs.YtidfahjebjaneaaW.PrintWords Go.Proofs.YtidfahjebjaneaaW.PrintLast Go.Proofs.YtidfahjebjaneaaW.PrintMore

/-- both queues, side by side -/
structure Both (b m : Nat) (f : Nat) (W : World) (q : Q) (A : Option Addr) (c : Nat) : Prop where
  at_ : QAt W b q
  r : RAt W m q.F q.N A c (win q)
  F : q.F = f
  lt : b < m
theorem Both.drew {b m f : Nat} {W : World} {q : Q} {A : Option Addr} {c : Nat} (h : Both b m f W q A c) (n : Nat) : Both b m f (W.drewN n) q A c := ⟨h.at_, h.r.drew n, h.F, h.lt⟩

theorem cameQ_F (q : Q) (x : Int) : (cameQ q x).F = q.F := by unfold cameQ; split <;> rfl
theorem cameQ_N (q : Q) (x : Int) : (cameQ q x).N = q.N := by unfold cameQ; split <;> rfl
theorem RAt.came {W : World} {m : Nat} {q : Q} {A : Option Addr} {c : Nat} {x : Int} {os : List OneV} (h : RAt W m q.F q.N A c os) : RAt W m (cameQ q x).F (cameQ q x).N A c os := by rw [cameQ_F, cameQ_N]; exact h

set_option maxRecDepth 100000 in
set_option maxHeartbeats 4000000 in
theorem plays_any (F : Int) (acts : List ActV) (A : Option Addr) (c : Nat) (look : Int) (w : World) (hr : ActsAt w A acts) (hc : acts.length ≤ c) :
    Calls Try.prog 5 #[.int .i64 F, .slice A acts.length c, .int .i64 look] w fun e w' => e = .returned (.bool true) ∧ Below w.heap.size w w' := by
  have HR := Lib.hid hr
  clear hr
  go_enter Try.func5, Try.ntmps5
  go_wp2_with fail
  refine (alive _).mono ?_
  rintro e w1 ⟨rfl, hb1⟩
  by_cases hl : acts.length ≤ 100
  · by_cases hF : 1 ≤ F ∧ F ≤ 8
    · obtain ⟨F1, F8⟩ := hF
      obtain ⟨f, rfl⟩ := Int.eq_ofNat_of_zero_le (show 0 ≤ F by omega)
      go_wp2_with fail
      refine (new_yes f (by omega) (by omega) _).mono ?_
      rintro e w2 ⟨rfl, hq, hb2, hs2⟩
      replace hb2 := bt hb1 hb2
      have hB0 : ∀ k, Both w1.heap.size w2.heap.size f ((w2.alloc (.cells #[.int .i64 f, .int .i64 0, .slice none 0 0] 57)).drewN k) ⟨f, 0, fun _ => ⟨#[]⟩, fun _ => false⟩ none 0 := fun k => by
        refine ⟨?_, ⟨?_, by simp [win_length], fun h => by simp [win_length] at h⟩, rfl, by omega⟩
        · exact (RowKit.Below.heap_alloc w2 _ _ (by omega)).trans hq
        · exact (heap_alloc_new w2 _).trans (by simp [win_length])
      have HB0 := Lib.hid hB0
      clear hB0 hq hs2
      go_wp2_with fail
      go_loopg [10] acts.length (fun gk x W => ∃ (i : Nat) (q : Q) (A : Option Addr) (c : Nat), i ≤ acts.length ∧ gk = acts.length - i ∧ x = .int .i64 i ∧ Both w1.heap.size w2.heap.size f W q A c ∧ q.N ≤ i ∧ Below w.heap.size w W)
      case atStart => exact ⟨0, _, _, _, by omega, by omega, rfl, HB0.out 0, by simp, ba hb2 _⟩
      case round =>
        obtain ⟨i, q, A2, c2, hi, rfl, rfl, hBo, hN, hbw⟩ := hrel
        by_cases hlt : i < acts.length
        · obtain ⟨ad, rfl, x0, x1, x2⟩ := HR.out i hlt
          generalize acts[i] = act at x0 x1 x2
          obtain ⟨kd, num, s⟩ := act
          simp only at x0 x1 x2
          have y0 := pw_cell_below hbw x0
          have hok : q.ok := ⟨by rw [hBo.F]; omega, by rw [hBo.F]; omega, by omega⟩
          have y1 := pw_cell_below hbw x1
          have y2 := pw_cell_below hbw x2
          go_upto_block 2 with fail
          go_cut [] (fun wx => ∃ (q4 : Q) (A4 : Option Addr) (c4 : Nat), Both w1.heap.size w2.heap.size f wx q4 A4 c4 ∧ q4.N ≤ i + 1 ∧ Below w.heap.size w wx)
          case first =>
            by_cases h0 : kd = 0
            · subst h0
              by_cases h2000 : s.size ≤ 2000
              · by_cases h512 : s.size ≤ 512
                · go_wp2_with fail
                  refine (push_ok w1.heap.size q s wr hBo.at_ hok (by omega) h512).mono ?_
                  rintro e w3 ⟨rfl, hq3, hg3⟩
                  have hb3 := bg hbw hg3 hb1.size hbw.size
                  have hR3 := hBo.r.real hg3 hBo.lt
                  have z2 := pw_cell_below hb3 x2
                  go_wp2_with fail
                  refine (push_ref w2.heap.size q A2 c2 s w3 hR3 hok h512).mono ?_
                  rintro e w4 ⟨rfl, ⟨A4, c4, hR4⟩, hb4⟩
                  have hb4' : Below w.heap.size w w4 := hb3.trans (hb4.mono hb2.size)
                  have hBo4 : Both w1.heap.size w2.heap.size f w4 { (q.setP (q.N % q.F) s).setO (q.N % q.F) true with N := q.N + 1 } A4 c4 := ⟨hq3.ref hb4 hBo.lt, hR4, hBo.F, hBo.lt⟩
                  have HBo4 := Lib.hid hBo4
                  clear hBo4
                  go_wp2
                  go_meet
                  exact ⟨_, A4, c4, HBo4.out, by show q.N + 1 ≤ i + 1; omega, hb4'⟩
                · go_wp2_with fail
                  refine (push_long w1.heap.size s wr (by omega)).mono ?_
                  rintro e w3 ⟨rfl, rfl⟩
                  go_wp2_with fail
                  refine (rpush_long w2.heap.size s _ (by omega)).mono ?_
                  rintro e w4 ⟨rfl, rfl⟩
                  go_wp2
                  go_meet
                  exact ⟨q, A2, c2, hBo, by omega, hbw⟩
              · go_wp2
                go_ret
                exact ⟨rfl, hbw⟩
            · by_cases h1 : kd = 1
              · subst h1
                go_wp2_with fail
                go_region_held3 (fun w' => w'.cell? ⟨(ad.add (i * 3)).block, (ad.add (i * 3)).off + 1, none⟩ = some (.int .i64 num))
                  (first | assumption)
                  (first
                    | (go_at_call 29; refine (came_real w1.heap.size q num _ (by exact hBo.at_) hok).mono ?_; rintro e w3 ⟨rfl, hq3, hg3⟩; have hb3 : Below w.heap.size w w3 := bg (by exact ⟨hbw.os, hbw.tape, hbw.output, hbw.size, hbw.block⟩) hg3 hb1.size hbw.size; have z3 := pw_cell_below hb3 x1; have hR3 : RAt w3 w2.heap.size q.F q.N A2 c2 (win q) := RAt.real (by exact ⟨hBo.r.at_, hBo.r.le, hBo.r.cs⟩) hg3 hBo.lt)
                    | (go_at_call 30; refine (came_ref w2.heap.size q A2 c2 num _ (by exact ⟨hR3.at_, hR3.le, hR3.cs⟩) hok).mono ?_; rintro e w4 ⟨rfl, hR4, hb4⟩; have hb5 : Below w.heap.size w w4 := Below.trans (by exact ⟨hb3.os, hb3.tape, hb3.output, hb3.size, hb3.block⟩) (hb4.mono hb2.size); have z4 := pw_cell_below hb5 x1)
                    | fail)
                all_goals
                  go_wp2
                  go_meet
                  exact ⟨cameQ q num, A2, c2, ⟨hq3.ref hb4 hBo.lt, hR4.came, (cameQ_F q num).trans hBo.F, hBo.lt⟩, by rw [cameQ_N]; omega, hb5⟩
              · have b0 : (kd == 0) = false := beq_eq_false_iff_ne.2 h0
                have b1 : (kd == 1) = false := beq_eq_false_iff_ne.2 h1
                clear h0 h1
                go_wp2
                go_meet
                exact ⟨q, A2, c2, hBo, by omega, hbw⟩
          case rest =>
            obtain ⟨q4, A4, c4, hBo4, hN4, hbw4⟩ := hcut
            have hok4 : q4.ok := ⟨by rw [hBo4.F]; omega, by rw [hBo4.F]; omega, by omega⟩
            have hl4 := win_length q4
            have c1' := hBo4.r.c1
            have c2' := hBo4.r.c2
            have hmin : ((min q4.N q4.F : Nat) : Int) = ((win q4).length : Nat) := by rw [hl4]
            have HL4 := Lib.hid hl4
            have HMIN := Lib.hid hmin
            clear hl4 hmin
            go_upto_region 25 with fail
            go_region_held3 (fun w' => w'.cell? ⟨w2.heap.size, 1, none⟩ = some (.int .i64 q4.N) ∧ w'.cell? ⟨w2.heap.size, 2, none⟩ = some (.slice A4 (win q4).length c4))
              (first | exact ⟨c1', c2'⟩)
              (first
                | (go_at_call 31; refine (len_any w1.heap.size q4 _ (by exact hBo4.at_)).mono ?_; rw [HMIN.out]; rintro e w5 ⟨rfl, k5, rfl⟩)
                | (go_at_call 32; refine (next_any w1.heap.size q4 _ (by exact hBo4.at_)).mono ?_; rintro e w6 ⟨rfl, rfl⟩)
                | fail)
            go_wp2
            go_loopg [15] (q4.N + 2) (fun gk x W => ∃ (n : Int) (k : Nat), -1 ≤ n ∧ n ≤ q4.N + 1 ∧ gk = (q4.N + 1 - n).toNat ∧ x = .int .i64 n ∧ W = wc.drewN k)
            case atStart => exact ⟨-1, _, by omega, by omega, by omega, rfl, rfl⟩
            case round =>
              obtain ⟨n, k, hn1, hn2, rfl, rfl, rfl⟩ := hrel
              have T1 := fun n k => open_real w1.heap.size q4 n (wc.drewN k) hBo4.at_ hok4
              have T2 := fun n k => open_ref w2.heap.size q4 A4 c4 n (wc.drewN k) (hBo4.r.drew k) hok4
              by_cases hlt2 : n < q4.N + 1
              · replace T1 := fun k => T1 n k
                replace T2 := fun k => T2 n k
                generalize openS q4 n = so at T1 T2
                generalize openB q4 n = bo at T1 T2
                go_wp2_with fail
                refine (T1 _).mono ?_
                rintro e w5 ⟨rfl, k5, rfl⟩
                go_wp2_with fail
                refine (T2 _).mono ?_
                rintro e w6 ⟨rfl, k6, rfl⟩
                clear T1 T2
                go_wp2
                go_roundg (q4.N + 1 - (n + 1)).toNat
                case measure => omega
                case rel => exact ⟨n + 1, _, by omega, by omega, rfl, rfl, rfl⟩
              · replace T1 := fun k => T1 look k
                replace T2 := fun k => T2 look k
                generalize openS q4 look = so at T1 T2
                generalize openB q4 look = bo at T1 T2
                go_wp2_with fail
                refine (T1 _).mono ?_
                rintro e w5 ⟨rfl, k5, rfl⟩
                go_wp2_with fail
                refine (T2 _).mono ?_
                rintro e w6 ⟨rfl, k6, rfl⟩
                clear T1 T2
                go_wp2
                go_roundg (acts.length - (i + 1))
                case measure => omega
                case rel => exact ⟨i + 1, q4, A4, c4, by omega, rfl, by go_num, hBo4.drew _, hN4, bdn hbw4 _⟩
        · go_wp2
          go_ret
          exact ⟨rfl, hbw⟩
    · rcases (show F < 1 ∨ 8 < F by omega) with h | h
      all_goals
        go_wp2_with fail
        refine (new_no F (by omega) _).mono ?_
        rintro e w2 ⟨rfl, rfl⟩
        go_wp2
        go_ret
        exact ⟨rfl, hb1⟩
  · go_wp2
    go_ret
    exact ⟨rfl, hb1⟩
end Go.Proofs.Ytidfahjebjaneaa.Que
