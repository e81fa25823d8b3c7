/- The walk of the statement BitsWrite. -/
import Derived.Test.YtcjnfdhdcoobgaaBits5b
set_option linter.unusedVariables false
set_option linter.unusedSimpArgs false
namespace Go.Proofs.Ytcjnfdhdcoobgaa.Bit
open Go.RowKit Go.Proofs.YtcjnfdhdcoobgaaW.PrintWords Go.Proofs.YtcjnfdhdcoobgaaW.PrintLast Go.Proofs.YtcjnfdhdcoobgaaW.PrintMore Go.Proofs.Ytcjnfdhdcoobgaa.Byt

set_option maxRecDepth 100000 in
set_option maxHeartbeats 0 in
theorem write_walk (n : Int) (acts : List ActV) (A : Option Addr) (c : Nat) (w : World) (hr : ActsAt w A acts) (hc : acts.length ≤ c) :
    Calls Try.prog 3 #[.int .i64 n, .slice A acts.length c] w fun e w' => e = .returned (.bool true) ∧ Below w.heap.size w w' := by
  have HR := Lib.hid hr
  clear hr
  go_enter Try.func3, Try.ntmps3
  go_wp2_with fail
  refine (alive _).mono ?_
  rintro e w1 ⟨rfl, hb1⟩
  by_cases hl : acts.length ≤ 100
  · by_cases hn : 0 ≤ n ∧ n ≤ 512
    · obtain ⟨n0, n512⟩ := hn
      obtain ⟨n, rfl⟩ := Int.eq_ofNat_of_zero_le n0
      go_wp2_with fail
      refine (new_yes n (by omega) _).mono ?_
      rintro e w2 ⟨rfl, hp2, hb2, hs2⟩
      replace hb2 := bt hb1 hb2
      go_wp2_with fail
      refine (rnew_yes n (by omega) _).mono ?_
      rintro e w3 ⟨u, rfl, hr3, hb3⟩
      have hB0 : Both w1.heap.size w2.heap.size (w2.heap.size + 1) n w3 0 0 (fun _ => false) u := ⟨hp2.ref hb3 (by omega), hr3, by omega, by omega, fun _ _ _ => rfl⟩
      have hb3' := bt hb2 hb3
      clear hp2 hr3 hb3 hs2
      have hb2w := hb2.size
      have hb1w := hb1.size
      go_wp2_with fail
      go_loopg [9] acts.length (fun gk x W => ∃ (i F B : Nat) (O : Nat → Bool), i ≤ acts.length ∧ gk = acts.length - i ∧ x = .int .i64 i ∧ Both w1.heap.size w2.heap.size (w2.heap.size + 1) n W F B O u ∧ Below w.heap.size w W)
      case atStart => exact ⟨0, 0, 0, _, by omega, by omega, rfl, hB0, hb3'⟩
      case round =>
        obtain ⟨i, F, B, O, hi, rfl, rfl, hBo, hbw⟩ := hrel
        by_cases hlt : i < acts.length
        · obtain ⟨hv, ad, rfl, x0, x1, x2⟩ := HR.out i hlt
          generalize acts[i] = act at hv x0 x1 x2
          obtain ⟨back, v, k⟩ := act
          simp only at hv x0 x1 x2
          have y0 := pw_cell_below hbw x0
          have y1 := pw_cell_below hbw x1
          have y2 := pw_cell_below hbw x2
          have hlt0 := hBo.lt
          have hs := hBo.sum
          have hn512 : n ≤ 100000 := by omega
          obtain ⟨wx, hwx⟩ : ∃ wx : World, wx = wr.alloc (.cells #[.bool back, .int .u32 v, .int .i64 k] 33) := ⟨_, rfl⟩
          have hpx : PadAt wx w1.heap.size n F B O := by rw [hwx]; exact hBo.p.below (ba (br _) _)
          have hrx : RefAt wx w2.heap.size (w2.heap.size + 1) (8 * n) F B O u := by rw [hwx]; exact hBo.r.below (ba (br _) _)
          have hbx : Below w.heap.size w wx := by rw [hwx]; exact ba hbw _
          have hox : wx.heap[wr.heap.size]? = some (.cells #[.bool back, .int .u32 v, .int .i64 k] 33 (0, 0)) := by rw [hwx]; exact heap_alloc_new _ _
          have hfar : w1.heap.size + 1 < wr.heap.size := by have := blk_lt hBo.r.at_; omega
          have HU : Hid (some wr.heap.size ≠ u.ownBlock ∧ wr.heap.size ≠ w2.heap.size + 1) := ⟨fun e => by have := own_lt hBo.r.own _ e.symm; omega, by have := blk_lt hBo.r.at_; omega⟩
          have HWX := Lib.hid hwx
          clear hwx
          go_upto_if 52 with fail
          go_cut [11] (fun x wx => ∃ (err : Int) (F' B' : Nat) (O' : Nat → Bool), x = .int .i64 err ∧ Hid (PutC w2.heap.size (w2.heap.size + 1) n F B O u v k (!back) err F' B' O') ∧ PadAt wx w1.heap.size n F' B' O' ∧ F' + B' ≤ 8 * n ∧ Hid (∀ i, F' ≤ i → i + B' < 8 * n → O' i = false) ∧
            RefAt wx w2.heap.size (w2.heap.size + 1) (8 * n) F B O u ∧ wx.heap[wr.heap.size]? = some (.cells #[.bool back, .int .u32 v, .int .i64 k] 33 (0, 0)) ∧ Below w.heap.size w wx)
          case first =>
            by_cases he : putE (8 * n - F - B) v k = 0
            · have hk0 : 0 ≤ k := by
                unfold putE mayE at he
                rcases Int.lt_or_le k 0 with h | h
                · rw [if_neg (by omega), if_pos (.inl h)] at he; cases he
                · exact h
              obtain ⟨q, rfl⟩ := Int.eq_ofNat_of_zero_le hk0
              obtain ⟨hq32, hqL⟩ := putE_ok he
              cases back with
              | true =>
                have HP := Lib.hid (putC_back (B0 := w2.heap.size) (m := w2.heap.size + 1) (O := O) (u := u) hv hn512 hs he)
                have hE : Hid (∀ i, F ≤ i → i + (B + q) < 8 * n → putB O (8 * n) B q v i = false) := fun i h1 h2 => (putB_free _ _ _ _ _ _ (by omega)).trans (hBo.free i h1 (by omega))
                have T := back_any w1.heap.size n F B O v q wx hpx hv hn512 hs he hBo.free
                clear he
                go_wp2_with fail
                rw [← HWX.out]
                refine T.mono ?_
                rintro e w4 ⟨rfl, hp4, h4⟩
                have hr4 := hrx.two h4 hlt0
                have ho4 := (h4.far _ hfar (blk_lt hox)).trans hox
                have hb4 := btwo hbx h4 hb1w
                clear T
                go_wp2
                go_meet
                exact ⟨_, F, B + q, _, rfl, HP, hp4, by omega, hE, hr4, ho4, hb4⟩
              | false =>
                have HP := Lib.hid (putC_front (B0 := w2.heap.size) (m := w2.heap.size + 1) (O := O) (u := u) hv hn512 hs he)
                have hE : Hid (∀ i, F + q ≤ i → i + B < 8 * n → putF O F q q v i = false) := fun i h1 h2 => (putF_free _ _ _ _ _ _ (by omega)).trans (hBo.free i (by omega) h2)
                have T := front_any w1.heap.size n F B O v q wx hpx hv hn512 hs he hBo.free
                clear he
                go_wp2_with fail
                rw [← HWX.out]
                refine T.mono ?_
                rintro e w4 ⟨rfl, hp4, h4⟩
                have hr4 := hrx.two h4 hlt0
                have ho4 := (h4.far _ hfar (blk_lt hox)).trans hox
                have hb4 := btwo hbx h4 hb1w
                clear T
                go_wp2
                go_meet
                exact ⟨_, F + q, B, _, rfl, HP, hp4, by omega, hE, hr4, ho4, hb4⟩
            · have HP := Lib.hid (putC_no (B0 := w2.heap.size) (m := w2.heap.size + 1) (O := O) (u := u) (fr := !back) (k := k) hv hn512 hs he)
              cases back with
              | true =>
                go_wp2_with fail
                rw [← HWX.out]
                refine (back_no w1.heap.size n F B O v k _ hpx hv hn512 hs he).mono ?_
                rintro e w4 ⟨rfl, k4, rfl⟩
                go_wp2
                go_meet
                exact ⟨_, F, B, O, rfl, HP, hpx.drew _, hs, Lib.hid hBo.free, hrx.drew _, hox, bdn hbx _⟩
              | false =>
                go_wp2_with fail
                rw [← HWX.out]
                refine (front_no w1.heap.size n F B O v k _ hpx hv hn512 hs he).mono ?_
                rintro e w4 ⟨rfl, k4, rfl⟩
                go_wp2
                go_meet
                exact ⟨_, F, B, O, rfl, HP, hpx.drew _, hs, Lib.hid hBo.free, hrx.drew _, hox, bdn hbx _⟩
          case rest =>
            obtain ⟨err, F', B', O', rfl, HP, hp4, hs4, HF4, hr4, ho4, hb4⟩ := hcut
            have z0 := blk_cell ho4 0
            have z1 := blk_cell ho4 1
            have z2 := blk_cell ho4 2
            have y8 : w2.heap.size ≤ wc.heap.size := by have := blk_lt hr4.at_; omega
            go_upto_region 17 with fail
            go_region_with
              (first
                | (go_at_call 18; refine (HP.out _ (by first | exact hr4 | exact hr4.drew1)).mono ?_; rintro e w5 ⟨rfl, hr5, hk5⟩; have hb5 : Below w2.heap.size wc w5 := (by exact ⟨hk5.below.os, hk5.below.tape, hk5.below.output, hk5.below.size, hk5.below.block⟩); have hp5 : PadAt w5 w1.heap.size n F' B' O' := hp4.ref hb5 hlt0; have ho5 := (hk5.keep.2 wr.heap.size (blk_lt (w := wc) ho4) HU.out.2 HU.out.1).trans ho4; have hbw5 := blow hb5 hb4 hb2w)
                | (go_at_call 19; refine (pleft_any w1.heap.size n F' B' O' _ hp5 hn512 hs4).mono ?_; rintro e w6 ⟨rfl, k6, hq6⟩; have hp6 : PadAt w6 w1.heap.size n F' B' O' := (by rw [hq6]; exact hp5.drew k6); have hr6 : RefAt w6 w2.heap.size (w2.heap.size + 1) (8 * n) F' B' O' u := (by rw [hq6]; exact hr5.drew k6); have ho6 : w6.heap[wr.heap.size]? = some (.cells #[.bool back, .int .u32 v, .int .i64 k] 33 (0, 0)) := (by rw [hq6]; exact ho5); have hbw6 : Below w.heap.size w w6 := (by rw [hq6]; exact bdn hbw5 k6); clear hq6)
                | (go_at_call 20; refine (rleft_any _ _ (8 * n) F' B' O' u _ hr6 (by omega) hs4).mono ?_; rintro e w7 ⟨rfl, k7, hq7⟩; have hp7 : PadAt w7 w1.heap.size n F' B' O' := (by rw [hq7]; exact hp6.drew k7); have hr7 : RefAt w7 w2.heap.size (w2.heap.size + 1) (8 * n) F' B' O' u := (by rw [hq7]; exact hr6.drew k7); have ho7 : w7.heap[wr.heap.size]? = some (.cells #[.bool back, .int .u32 v, .int .i64 k] 33 (0, 0)) := (by rw [hq7]; exact ho6); have hbw7 : Below w.heap.size w w7 := (by rw [hq7]; exact bdn hbw6 k7); clear hq7)
                | (go_at_call 21; refine (pbytes_any w1.heap.size n F' B' O' _ hp7 hn512).mono ?_; rintro e w8 ⟨v8, rfl, hown8, hb8⟩; rw [bytesL_length] at hown8; obtain ⟨A8, c8, rfl, hrd8⟩ := own_reads hown8; have hp8 := hp7.below hb8; have hr8 := hr7.below hb8; have ho8 := (hb8.block _ (blk_lt ho7)).trans ho7; have hbw8 := bt hbw7 hb8; have cv8 := string_of_reads (P := Try.prog) (c := c8) (dst := 9) Try.underlying37 Try.underlying5 Try.underlying9 hrd8)
                | (go_at_call 22; refine (rbytes_any _ _ n F' B' O' u _ hr8 hn512).mono ?_; rintro e w9 ⟨v9, rfl, hown9, hb9⟩; rw [bytesL_length] at hown9; obtain ⟨A9, c9, rfl, hrd9⟩ := own_reads hown9; have hp9 := hp8.below hb9; have hr9 := hr8.below hb9; have ho9 := (hb9.block _ (blk_lt ho8)).trans ho8; have hbw9 := bt hbw8 hb9; have cv9 := string_of_reads (P := Try.prog) (c := c9) (dst := 9) Try.underlying37 Try.underlying5 Try.underlying9 hrd9; have cv89 := string_of_reads (P := Try.prog) (c := c8) (dst := 9) Try.underlying37 Try.underlying5 Try.underlying9 (hrd8.below hb9))
                | fail)
            all_goals
              go_wp2
              go_roundg (acts.length - (i + 1))
              case measure => omega
              case rel => exact ⟨i + 1, F', B', O', by omega, rfl, by go_num, ⟨hp9, hr9, hlt0, hs4, HF4.out⟩, hbw9⟩
        · go_wp2
          go_ret
          exact ⟨rfl, hbw⟩
    · rcases (show n < 0 ∨ 512 < n by omega) with h | h
      case' inl => obtain ⟨err, herr, hpos⟩ : ∃ err : Int, (if n < 0 then (1 : Int) else 2) = err ∧ err = 1 := ⟨_, rfl, if_pos h⟩
      case' inr => obtain ⟨err, herr, hpos⟩ : ∃ err : Int, (if n < 0 then (1 : Int) else 2) = err ∧ err = 2 := ⟨_, rfl, if_neg (by omega)⟩
      all_goals
        subst hpos
        have T1 := new_no n (by omega) w1
        have T2 := rnew_no n (by omega) w1
        rw [herr] at T1 T2
        clear herr
        go_wp2_with fail
        refine T1.mono ?_
        rintro e w2 ⟨rfl, rfl⟩
        go_wp2_with fail
        refine T2.mono ?_
        rintro e w3 ⟨rfl, rfl⟩
        go_wp2
        go_loopg [9] 0 (fun gk x W => gk = 0 ∧ x = .int .i64 0 ∧ W = w3)
        case atStart => exact ⟨rfl, rfl, rfl⟩
        case round =>
          obtain ⟨rfl, rfl, rfl⟩ := hrel
          by_cases h0 : 0 < acts.length
          · go_wp2
            go_ret
            exact ⟨rfl, hb1⟩
          · go_wp2
            go_ret
            exact ⟨rfl, hb1⟩
  · go_wp2
    go_ret
    exact ⟨rfl, hb1⟩
end Go.Proofs.Ytcjnfdhdcoobgaa.Bit
