/- The walk of the statement BitsBack. -/
import Derived.Test.YtcjnfdhdcoobgaaBits8P
import Derived.Test.YtcjnfdhdcoobgaaBits7
import Derived.Test.YtcjnfdhdcoobgaaMore2
set_option linter.unusedVariables false
set_option linter.unusedSimpArgs false
namespace Go.Proofs.Ytcjnfdhdcoobgaa.Bit
open Go.RowKit Go.Proofs.YtcjnfdhdcoobgaaW.PrintWords Go.Proofs.YtcjnfdhdcoobgaaW.PrintLast Go.Proofs.YtcjnfdhdcoobgaaW.PrintMore Go.Proofs.Ytcjnfdhdcoobgaa.Byt

def acs (ds : List ActV) : List Value := ds.flatMap fun d => [.bool d.1, .int .u32 d.2.1, .int .i64 d.2.2]
theorem acs_append (a b : List ActV) : acs (a ++ b) = acs a ++ acs b := by simp [acs]
theorem acs_length (ds : List ActV) : (acs ds).length = ds.length * 3 := by
  induction ds with
  | nil => rfl
  | cons o r ih => simp only [acs, List.flatMap_cons, List.length_append, List.length_cons, List.length_nil] at ih ⊢; omega
theorem acs_at : ∀ (ds : List ActV) (i : Nat) (h : i < ds.length), (acs ds)[i * 3]? = some (.bool ds[i].1) ∧ (acs ds)[i * 3 + 1]? = some (.int .u32 ds[i].2.1) ∧ (acs ds)[i * 3 + 2]? = some (.int .i64 ds[i].2.2)
  | o :: r, 0, _ => ⟨rfl, rfl, rfl⟩
  | o :: r, i + 1, h => by
    have ih := acs_at r i (by simpa using h)
    have e : ∀ j, (acs (o :: r))[j + 3]? = (acs r)[j]? := fun j => rfl
    rw [show (i + 1) * 3 = i * 3 + 3 by omega, show i * 3 + 3 + 1 = i * 3 + 1 + 3 by omega, show i * 3 + 3 + 2 = i * 3 + 2 + 3 by omega, e, e, e]
    exact ih
theorem infoA : (Try.prog.info? 33).map (fun i => (i.zero, i.size, i.bytes)) = some (some (.agg #[.bool false, .int .u32 0, .int .i64 0]), 3, 16) := by kernel_rfl
theorem own_pos {w : World} {base n size : Nat} {e : TypeId} {v : Value} {xs : List Value} (h : w.ownsRow base e size v n xs) (hn : 0 < n) : ∃ g cap, v = .slice (some ⟨g, 0, none⟩) n cap ∧ n ≤ cap ∧ base ≤ g := by
  rcases h.2 with ⟨-, h2⟩ | ⟨g, cap, cur, h1, h2, -, h3, -⟩
  · omega
  · exact ⟨g, cap, h1, h3, h2⟩
theorem PadAt.only {W W' : World} {g n F B b : Nat} {O : Nat → Bool} (h : PadAt W g n F B O) (k : OnlyB b W W') (hlt : g + 1 < b) : PadAt W' g n F B O :=
  ⟨(k.block _ (blk_lt h.at_) (by intro e; injection e; omega)).trans h.at_, own_move h.own fun j hj => k.block j (own_lt h.own j hj) (by simp only [Value.ownBlock, Option.some.injEq] at hj; intro e; injection e; omega)⟩
theorem mayE_zero {L k : Nat} (h1 : k ≤ 32) (h2 : k ≤ L) : mayE L k = 0 := by unfold mayE; rw [if_neg (by omega), if_neg (by omega)]
theorem own_two {W W' : World} {B0 s n g : Nat} {e : TypeId} {v : Value} {xs : List Value} (h : W.ownsRow B0 e s v n xs) (k : Two g W W') (hlt : g + 1 < B0) : W'.ownsRow B0 e s v n xs :=
  own_move h fun b hb => k.far b (by have := own_base h b hb; omega) (own_lt h b hb)

set_option maxRecDepth 100000 in
set_option maxHeartbeats 4000000 in
theorem back_walk (n : Int) (acts : List ActV) (A : Option Addr) (c : Nat) (w : World) (hr : ActsAt w A acts) (hc : acts.length ≤ c) :
    Calls Try.prog 8 #[.int .i64 n, .slice A acts.length c] w fun e w' => e = .returned (.bool true) ∧ Below w.heap.size w w' := by
  have HR := Lib.hid hr
  clear hr
  go_enter Try.func8, Try.ntmps8
  go_wp2_with fail
  refine (alive _).mono ?_
  rintro e w1 ⟨rfl, hb1⟩
  by_cases hn : 0 ≤ n ∧ n ≤ 512
  · obtain ⟨n0, n512⟩ := hn
    obtain ⟨n, rfl⟩ := Int.eq_ofNat_of_zero_le n0
    go_wp2_with fail
    refine (new_yes n (by omega) _).mono ?_
    rintro e w2 ⟨rfl, hp2, hb2, hs2⟩
    replace hb2 := bt hb1 hb2
    have hb1w := hb1.size
    have hb2w := hb2.size
    by_cases hl : acts.length ≤ 100
    · have hn5 : n ≤ 100000 := by omega
      go_wp2
      go_loopg [7, 8] acts.length (fun gk vd x W => ∃ (i F B : Nat) (O : Nat → Bool) (dn : List ActV), i ≤ acts.length ∧ gk = acts.length - i ∧ x = .int .i64 i ∧ PadAt W w1.heap.size n F B O ∧ F + B ≤ 8 * n ∧ Hid (∀ i, F ≤ i → i + B < 8 * n → O i = false) ∧
        W.ownsRow w2.heap.size 33 3 vd dn.length (acs dn) ∧ dn.length ≤ 2 * i ∧ Hid (Reads O (8 * n) dn 0 0 F B) ∧ Below w.heap.size w W ∧ w2.heap.size ≤ W.heap.size)
      case atStart => exact ⟨0, 0, 0, _, [], by omega, by omega, rfl, hp2, by omega, fun _ _ _ => rfl, own_nil _ _ _ _, by simp, ⟨rfl, rfl⟩, hb2, Nat.le_refl _⟩
      case round =>
        obtain ⟨i, F, B, O, dn, hi, rfl, rfl, hp, hs, HO, hd, hdl, HRD, hbw, hsz⟩ := hrel
        obtain ⟨Ad, cd, rfl⟩ := own_slice hd
        by_cases hlt : i < acts.length
        · obtain ⟨hv, ad, rfl, x0, x1, x2⟩ := HR.out i hlt
          generalize acts[i] = act at hv x0 x1 x2
          obtain ⟨back, v, k⟩ := act
          simp only at hv x0 x1 x2
          have y0 := pw_cell_below hbw x0
          have y1 := pw_cell_below hbw x1
          have y2 := pw_cell_below hbw x2
          by_cases he : putE (8 * n - F - B) v k = 0
          · have hk0 : 0 ≤ k := by
              unfold putE mayE at he
              rcases Int.lt_or_le k 0 with h | h
              · rw [if_neg (by omega), if_pos (.inl h)] at he; cases he
              · exact h
            obtain ⟨q, rfl⟩ := Int.eq_ofNat_of_zero_le hk0
            obtain ⟨hq32, hqL, -, hvq⟩ := putE_ok2 he hv
            have HVQ := Lib.hid hvq
            have T := front_any w1.heap.size n F B O v q
            have HO4 : Hid (∀ i, F + q ≤ i → i + B < 8 * n → putF O F q q v i = false) := fun i h1 h2 => (putF_free _ _ _ _ _ _ (by omega)).trans (HO.out i (by omega) h2)
            have HR4 := Lib.hid (step_front HRD.out hq32 hvq (by omega))
            have HE := Lib.hid he
            clear he hvq
            go_upto_region 10 with fail
            go_region_held3 (fun w' => w'.cell? ⟨(ad.add (i * 3)).block, (ad.add (i * 3)).off + 1, none⟩ = some (.int .u32 v) ∧ w'.cell? ⟨(ad.add (i * 3)).block, (ad.add (i * 3)).off + 2, none⟩ = some (.int .i64 q))
              (first | exact ⟨y1, y2⟩ | exact ⟨k1, k2⟩)
              (first
                | (go_at_call 17; refine (T _ (by first | exact hp.drew1 | exact hp) hv hn5 hs HE.out HO.out).mono ?_; rintro e w4 ⟨rfl, hp4, h4⟩; have hb4 : Below w.heap.size w w4 := btwo (w1 := wr) hbw (by first | exact h4 | exact ⟨⟨h4.below.os, h4.below.tape, h4.below.output, h4.below.size, h4.below.block⟩, h4.far, h4.size⟩) hb1w; have hd4 := own_two (g := w1.heap.size) (W := wr) hd (by first | exact h4 | exact ⟨⟨h4.below.os, h4.below.tape, h4.below.output, h4.below.size, h4.below.block⟩, h4.far, h4.size⟩) (by omega); have k0 := pw_cell_below hb4 x0; have k1 := pw_cell_below hb4 x1; have k2 := pw_cell_below hb4 x2; have hsz4 : w2.heap.size ≤ w4.heap.size := Nat.le_trans hsz h4.below.size)
                | fail)
            generalize putF O F q q v = O4 at hp4 HO4 HR4
            clear T HE hp hd hbw y0 y1 y2
            cases back with
            | false =>
              go_wp2_with (at_builtin; refine print_append_cells w2.heap.size rfl (.tmp 83) (.tmp 88) 22 33 _ 3 16 rfl Try.underlying22 infoA rfl (by decide) (by decide) _ dn.length (acs dn) [.bool false, .int .u32 v, .int .i64 q] rfl rfl rfl (by intro u hu; simp only [List.mem_cons, List.not_mem_nil, or_false] at hu; rcases hu with rfl | rfl | rfl <;> rfl) hd4 (Below.refl _ _) hsz4 (by omega) ?_; intro v5 w5 hown5 hB5 hg5 hat5)
              clear hg5 hat5
              have hp5 := hp4.ref hB5 (by omega)
              have hb5 := blow hB5 hb4 hb2w
              have hsz5 := Nat.le_trans hsz4 hB5.size
              go_roundg (acts.length - (i + 1))
              case measure => omega
              case rel =>
                refine ⟨i + 1, F + q, B, O4, dn ++ [(false, v, (q : Int))], by omega, rfl, by go_num, hp5, by omega, HO4, ?_, by simp; omega, HR4, hb5, hsz5⟩
                rw [acs_append, List.length_append]
                exact hown5
            | true =>
              by_cases he2 : putE (8 * n - (F + q) - B) v q = 0
              · obtain ⟨-, hqL2, -, -⟩ := putE_ok2 he2 hv
                have T := back_any w1.heap.size n (F + q) B O4 v q
                have HO5 : Hid (∀ i, F + q ≤ i → i + (B + q) < 8 * n → putB O4 (8 * n) B q v i = false) := fun i h1 h2 => (putB_free _ _ _ _ _ _ (by omega)).trans (HO4.out i h1 (by omega))
                have HR5 := Lib.hid (step_back HR4.out hq32 HVQ.out (show F + q + B + q ≤ 8 * n by omega))
                have HE2 := Lib.hid he2
                clear he2
                go_upto_region 12 with fail
                go_region_held3 (fun w' => w'.cell? ⟨(ad.add (i * 3)).block, (ad.add (i * 3)).off + 1, none⟩ = some (.int .u32 v) ∧ w'.cell? ⟨(ad.add (i * 3)).block, (ad.add (i * 3)).off + 2, none⟩ = some (.int .i64 q))
                  (first | exact ⟨k1, k2⟩ | exact ⟨j1, j2⟩)
                  (first
                    | (go_at_call 16; refine (T _ (by first | exact hp4.drew1 | exact hp4) hv hn5 (by omega) HE2.out HO4.out).mono ?_; rintro e w6 ⟨rfl, hp6, h6⟩; have hb6 : Below w.heap.size w w6 := btwo (w1 := w4) hb4 (by first | exact h6 | exact ⟨⟨h6.below.os, h6.below.tape, h6.below.output, h6.below.size, h6.below.block⟩, h6.far, h6.size⟩) hb1w; have hd6 := own_two (g := w1.heap.size) (W := w4) hd4 (by first | exact h6 | exact ⟨⟨h6.below.os, h6.below.tape, h6.below.output, h6.below.size, h6.below.block⟩, h6.far, h6.size⟩) (by omega); have j0 := pw_cell_below hb6 x0; have j1 := pw_cell_below hb6 x1; have j2 := pw_cell_below hb6 x2; have hsz6 : w2.heap.size ≤ w6.heap.size := Nat.le_trans hsz4 h6.below.size)
                    | fail)
                generalize putB O4 (8 * n) B q v = O5 at hp6 HO5 HR5
                clear T HE2 hp4 hd4 hb4 k0 k1 k2
                go_upto_region 13 with fail
                go_region_held3 (fun w' => w'.cell? ⟨(ad.add (i * 3)).block, (ad.add (i * 3)).off + 1, none⟩ = some (.int .u32 v) ∧ w'.cell? ⟨(ad.add (i * 3)).block, (ad.add (i * 3)).off + 2, none⟩ = some (.int .i64 q))
                  (first | exact ⟨j1, j2⟩ | exact ⟨l1, l2⟩ | exact ⟨pw_cell_below (bd (ba (br _) _)) j1, pw_cell_below (bd (ba (br _) _)) j2⟩)
                  (first
                    | ((refine step_append_cells (W := w6.drew) w2.heap.size rfl (.tmp 67) (.tmp 79) 22 33 (.agg #[.bool false, .int .u32 0, .int .i64 0]) 3 16 rfl Try.underlying22 infoA rfl (by decide) (by decide) _ dn.length (acs dn) [.bool false, .int .u32 v, .int .i64 q] rfl rfl rfl (by intro u hu; simp only [List.mem_cons, List.not_mem_nil, or_false] at hu; rcases hu with rfl | rfl | rfl <;> rfl) (own_move hd6 fun _ _ => rfl) (Below.refl _ _) hsz6 (by omega) ?_); intro v7 w7 hown7 hB7 hg7 hat7; have hb7 : Below w.heap.size w w7 := blow (by exact ⟨hB7.os, hB7.tape, hB7.output, hB7.size, hB7.block⟩) hb6 hb2w; have l1 := pw_cell_below hb7 x1; have l2 := pw_cell_below hb7 x2; have hp7 := hp6.ref (W := w6) (W' := w7) (B0 := w2.heap.size) (by exact ⟨hB7.os, hB7.tape, hB7.output, hB7.size, hB7.block⟩) (by omega))
                    | fail)
                clear hg7 hat7
                have hsz7 : w2.heap.size ≤ w7.heap.size := Nat.le_trans hsz6 hB7.size
                have l0 := pw_cell_below hb7 x0
                obtain ⟨A7, c7, rfl⟩ := own_slice hown7
                go_wp2_with (at_builtin; go_loud (refine print_append_cells w2.heap.size rfl (.tmp 83) (.tmp 88) 22 33 _ 3 16 rfl Try.underlying22 infoA rfl (by decide) (by decide) _ (dn.length + 1) (acs dn ++ [Value.bool false, Value.int IntKind.u32 v, Value.int IntKind.i64 q]) [.bool true, .int .u32 v, .int .i64 q] rfl rfl rfl (by intro u hu; simp only [List.mem_cons, List.not_mem_nil, or_false] at hu; rcases hu with rfl | rfl | rfl <;> rfl) hown7 (Below.refl _ _) hsz7 (by omega) ?_); intro v8 w8 hown8 hB8 hg8 hat8)
                clear hg8 hat8
                have hp8 := hp7.ref hB8 (by omega)
                have hb8 := blow hB8 hb7 hb2w
                have hsz8 := Nat.le_trans hsz7 hB8.size
                go_roundg (acts.length - (i + 1))
                case measure => omega
                case rel =>
                  refine ⟨i + 1, F + q, B + q, O5, dn ++ [(false, v, (q : Int))] ++ [(true, v, (q : Int))], by omega, rfl, by go_num, hp8, by omega, HO5, ?_, by simp; omega, HR5, hb8, hsz8⟩
                  rw [acs_append, acs_append, List.length_append, List.length_append]
                  exact hown8
              · have T := fun k0 => back_no w1.heap.size n (F + q) B O4 v q (w4.drewN k0) (hp4.drew _) hv hn5 (by omega) he2
                generalize putE (8 * n - (F + q) - B) v q = err at he2 T
                have b1 : (err == 0) = false := beq_eq_false_iff_ne.2 he2
                clear he2
                go_upto_region 12 with fail
                go_quiet ((go_at_call 16; exact Calls.quiet_of (T _)))
                clear T
                obtain ⟨w6, hw6⟩ : ∃ w6 : World, w6 = w4.drewN nq := ⟨_, rfl⟩
                rw [← hw6]
                have hp6 : PadAt w6 w1.heap.size n (F + q) B O4 := by rw [hw6]; exact hp4.drew _
                have hd6 : w6.ownsRow w2.heap.size 33 3 (.slice Ad dn.length cd) dn.length (acs dn) := by rw [hw6]; exact own_move hd4 fun _ _ => rfl
                have hb6 : Below w.heap.size w w6 := by rw [hw6]; exact bdn hb4 _
                have hsz6 : w2.heap.size ≤ w6.heap.size := by rw [hw6]; exact hsz4
                have j0 := pw_cell_below hb6 x0
                have j1 := pw_cell_below hb6 x1
                have j2 := pw_cell_below hb6 x2
                clear hw6 hp4 hd4 hb4 k0 k1 k2
                go_upto_region 13 with fail
                go_region_held3 (fun w' => w'.cell? ⟨(ad.add (i * 3)).block, (ad.add (i * 3)).off + 1, none⟩ = some (.int .u32 v) ∧ w'.cell? ⟨(ad.add (i * 3)).block, (ad.add (i * 3)).off + 2, none⟩ = some (.int .i64 q))
                  (first | exact ⟨j1, j2⟩ | exact ⟨l1, l2⟩ | exact ⟨pw_cell_below (bd (ba (br _) _)) j1, pw_cell_below (bd (ba (br _) _)) j2⟩)
                  (first
                    | ((refine step_append_cells (W := w6.drew) w2.heap.size rfl (.tmp 67) (.tmp 79) 22 33 (.agg #[.bool false, .int .u32 0, .int .i64 0]) 3 16 rfl Try.underlying22 infoA rfl (by decide) (by decide) _ dn.length (acs dn) [.bool false, .int .u32 v, .int .i64 q] rfl rfl rfl (by intro u hu; simp only [List.mem_cons, List.not_mem_nil, or_false] at hu; rcases hu with rfl | rfl | rfl <;> rfl) (own_move hd6 fun _ _ => rfl) (Below.refl _ _) hsz6 (by omega) ?_); intro v7 w7 hown7 hB7 hg7 hat7; have hb7 : Below w.heap.size w w7 := blow (by exact ⟨hB7.os, hB7.tape, hB7.output, hB7.size, hB7.block⟩) hb6 hb2w; have l1 := pw_cell_below hb7 x1; have l2 := pw_cell_below hb7 x2; have hp7 := hp6.ref (W := w6) (W' := w7) (B0 := w2.heap.size) (by exact ⟨hB7.os, hB7.tape, hB7.output, hB7.size, hB7.block⟩) (by omega))
                    | fail)
                clear hg7 hat7
                have hsz7 : w2.heap.size ≤ w7.heap.size := Nat.le_trans hsz6 hB7.size
                go_wp2
                go_roundg (acts.length - (i + 1))
                case measure => omega
                case rel =>
                  refine ⟨i + 1, F + q, B, O4, dn ++ [(false, v, (q : Int))], by omega, rfl, by go_num, hp7, by omega, HO4, ?_, by simp; omega, HR4, hb7, hsz7⟩
                  rw [acs_append, List.length_append]
                  exact hown7
          · have T := fun k0 => front_no w1.heap.size n F B O v k (wr.drewN k0) (hp.drew _) hv hn5 hs he
            generalize putE (8 * n - F - B) v k = err at he T
            have b1 : (err == 0) = false := beq_eq_false_iff_ne.2 he
            clear he
            go_upto_region 10 with fail
            go_quiet ((go_at_call 17; exact Calls.quiet_of (T _)))
            clear T
            cases back with
            | true =>
              go_wp2
              go_roundg (acts.length - (i + 1))
              case measure => omega
              case rel => exact ⟨i + 1, F, B, O, dn, by omega, rfl, by go_num, hp.drew _, hs, HO, own_move hd fun _ _ => rfl, by omega, HRD, bdn hbw _, hsz⟩
            | false =>
              go_wp2
              go_roundg (acts.length - (i + 1))
              case measure => omega
              case rel => exact ⟨i + 1, F, B, O, dn, by omega, rfl, by go_num, hp.drew _, hs, HO, own_move hd fun _ _ => rfl, by omega, HRD, bdn hbw _, hsz⟩
        · have T := pbytes_any w1.heap.size n F B O wr hp hn5
          go_wp2_with fail
          refine T.mono ?_
          rintro e w4 ⟨v4, rfl, hown4, hb4⟩
          rw [bytesL_length] at hown4
          obtain ⟨A4, c4, rfl, hrd4⟩ := own_reads hown4
          have hp4 := hp.below hb4
          have hd4 := pw_own_below hd hb4
          have hbw4 := bt hbw hb4
          have hs4 := hb4.size
          clear T hown4
          go_wp2_with fail
          refine (open_yes A4 n c4 O _ (by omega) hrd4).mono ?_
          rintro e w5 ⟨eb, A5, c5, rfl, he5, hb5, heb⟩
          have hp5 := hp4.below hb5
          have hd5 := pw_own_below hd4 hb5
          have hbw5 := bt hbw4 hb5
          have HNE := Lib.hid (fun j hj => Nat.lt_of_lt_of_le (own_lt hd4 j hj) heb)
          have hgeb : w1.heap.size + 1 < eb := Nat.lt_of_lt_of_le (blk_lt hp4.at_) heb
          have hweb : w.heap.size ≤ eb := by omega
          go_wp2
          go_loopg [12, 13] dn.length (fun gk x y W => ∃ (q f b : Nat), q ≤ dn.length ∧ gk = dn.length - q ∧ x = .int .i64 q ∧ EyeAt W eb n f b O A5 c5 ∧ Hid (Reads O (8 * n) (dn.drop q) f b F B) ∧ W.ownsRow w2.heap.size 33 3 (.slice Ad dn.length cd) dn.length (acs dn) ∧ PadAt W w1.heap.size n F B O ∧ Below w.heap.size w W)
          case atStart => exact ⟨0, 0, 0, by omega, by omega, rfl, he5, HRD, hd5, hp5, hbw5⟩
          case round =>
            obtain ⟨q, f, b, hq, rfl, rfl, hE, HRq, hdq, hpq, hbq⟩ := hrel
            have hmono := HRq.out.mono
            by_cases hltq : q < dn.length
            · obtain ⟨g, cap, hsl, hcap, hgB⟩ := own_pos hdq (by omega)
              simp only [Value.slice.injEq] at hsl
              obtain ⟨rfl, -, rfl⟩ := hsl
              obtain ⟨-, hgl, -, hcell⟩ := own_cells hdq
              obtain ⟨a0, a1, a2⟩ := acs_at dn q hltq
              have z0 := (hcell _ _ a0).1
              have z1 := (hcell _ _ a1).1
              have z2 := (hcell _ _ a2).1
              have hRq := HRq.out
              rw [List.drop_eq_getElem_cons hltq] at hRq
              generalize dn[q] = d at a0 a1 a2 z0 z1 z2 hRq
              obtain ⟨bk, v, k⟩ := d
              obtain ⟨hk0, hk32, hRq⟩ := hRq
              simp only at hk0 hk32 hRq z0 z1 z2
              obtain ⟨k, rfl⟩ := Int.eq_ofNat_of_zero_le hk0
              rw [Int.toNat_natCast] at hRq
              have hgeb2 := HNE.out g rfl
              cases bk with
              | true =>
                rw [if_pos rfl] at hRq
                obtain ⟨hval, hrest⟩ := hRq
                have hm2 := hrest.mono
                have T := eback_any eb n f b O A5 c5 k wr hE hn5 (by omega) (mayE_zero (by omega) (by omega))
                rw [hval] at T
                have HREST := Lib.hid hrest
                clear a0 a1 a2 hval hrest hcell
                go_wp2_with fail
                refine T.mono ?_
                rintro e w6 ⟨rfl, hE6, h6⟩
                have z1' := (World.cell?_of_block (w := wr) (h6.block g hgl (by intro e; injection e; omega))).trans z1
                have hd6 : w6.ownsRow w2.heap.size 33 3 (.slice (some ⟨g, 0, none⟩) dn.length cd) dn.length (acs dn) := own_move hdq fun j hj => h6.block j (own_lt hdq j hj) (by have := HNE.out j hj; intro e; injection e; omega)
                have hp6 := hpq.only h6 hgeb
                have hb6 := bonly hbq h6 hweb hbq.size
                clear T z0 z1 z2
                go_wp2
                go_roundg (dn.length - (q + 1))
                case measure => omega
                case rel => exact ⟨q + 1, f, b + k, by omega, rfl, by go_num, hE6, HREST.out, hd6, hp6, hb6⟩
              | false =>
                rw [if_neg (by decide)] at hRq
                obtain ⟨hval, hrest⟩ := hRq
                have hm2 := hrest.mono
                have T := efront_any eb n f b O A5 c5 k wr hE hn5 (by omega) (mayE_zero (by omega) (by omega))
                rw [hval] at T
                have HREST := Lib.hid hrest
                clear a0 a1 a2 hval hrest hcell
                go_wp2_with fail
                refine T.mono ?_
                rintro e w6 ⟨rfl, hE6, h6⟩
                have z1' := (World.cell?_of_block (w := wr) (h6.block g hgl (by intro e; injection e; omega))).trans z1
                have hd6 : w6.ownsRow w2.heap.size 33 3 (.slice (some ⟨g, 0, none⟩) dn.length cd) dn.length (acs dn) := own_move hdq fun j hj => h6.block j (own_lt hdq j hj) (by have := HNE.out j hj; intro e; injection e; omega)
                have hp6 := hpq.only h6 hgeb
                have hb6 := bonly hbq h6 hweb hbq.size
                clear T z0 z1 z2
                go_wp2
                go_roundg (dn.length - (q + 1))
                case measure => omega
                case rel => exact ⟨q + 1, f + k, b, by omega, rfl, by go_num, hE6, HREST.out, hd6, hp6, hb6⟩
            · obtain rfl : q = dn.length := by omega
              have hend := HRq.out
              rw [List.drop_length] at hend
              obtain ⟨rfl, rfl⟩ := hend
              have TL := fun j => eleft_any eb n f b O A5 c5 (wr.drewN j) (hE.drew j) hn5 hs
              have TP := fun j => pleft_any w1.heap.size n f b O (wr.drewN j) (hpq.drew j) hn5 hs
              go_wp2_with fail
              refine (TL 0).mono ?_
              rintro e w6 ⟨rfl, k6, rfl⟩
              go_wp2_with fail
              refine (TP _).mono ?_
              rintro e w7 ⟨rfl, k7, rfl⟩
              go_wp2
              go_ret
              exact ⟨rfl, bdn hbq _⟩
    · go_wp2
      go_ret
      exact ⟨rfl, hb2⟩
  · rcases (show n < 0 ∨ 512 < n by omega) with h | h
    case' inl => obtain ⟨err, herr, hpos⟩ : ∃ err : Int, (if n < 0 then (1 : Int) else 2) = err ∧ err = 1 := ⟨_, rfl, if_pos h⟩
    case' inr => obtain ⟨err, herr, hpos⟩ : ∃ err : Int, (if n < 0 then (1 : Int) else 2) = err ∧ err = 2 := ⟨_, rfl, if_neg (by omega)⟩
    all_goals
      subst hpos
      have T1 := new_no n (by omega) w1
      rw [herr] at T1
      clear herr
      go_wp2_with fail
      refine T1.mono ?_
      rintro e w2 ⟨rfl, rfl⟩
      go_wp2
      go_ret
      exact ⟨rfl, hb1⟩
end Go.Proofs.Ytcjnfdhdcoobgaa.Bit
