/- The walk of the statement SlotsEvents. -/
import Derived.Test.YtidfahjebjaneaaSlots4
set_option linter.unusedVariables false
set_option linter.unusedSimpArgs false
namespace Go.Proofs.Ytidfahjebjaneaa.Slt
open Go.RowKit Go.Proofs.YtidfahjebjaneaaW.PrintWords Go.Proofs.YtidfahjebjaneaaW.PrintLast Go.Proofs.YtidfahjebjaneaaW.PrintMore Go.Proofs.Ytidfahjebjaneaa.PSlotsTurns
open Go.Proofs.Ytidfahjebjaneaa.PSlotsEvents (rd_L1 at_L1)

theorem far_ok (ls : List (List Int)) (hl : ls.length ≤ 100) : ∀ n i, i + n = ls.length → ∃ K r, PSlotsEvents.psalterylaw28_far.l0 K ls (i : Int) = some r
  | 0, i, h => ⟨1, false, by simp only [PSlotsEvents.psalterylaw28_far.l0]; rw [if_neg (by omega)]⟩
  | n + 1, i, h => by
    obtain ⟨K, r, hr⟩ := far_ok ls hl n (i + 1) (by omega)
    by_cases h2 : ((rd_L1 ls (i : Int)).length : Int) > 100
    · exact ⟨1, true, by simp only [PSlotsEvents.psalterylaw28_far.l0]; rw [if_pos (by omega), if_pos (by omega), if_pos h2]⟩
    · refine ⟨K + 1, r, ?_⟩
      simp only [PSlotsEvents.psalterylaw28_far.l0]
      rw [if_pos (by omega), if_pos (by omega), if_neg h2, show wrap64 ((i : Int) + 1) = ((i + 1 : Nat) : Int) from by unfold wrap64; omega]
      exact hr
theorem far_f (ls : List (List Int)) : ∃ K r, PSlotsEvents.psalterylaw28_far.f K ls = some r := by
  unfold PSlotsEvents.psalterylaw28_far.f
  by_cases h : (ls.length : Int) > 100
  · exact ⟨0, true, by rw [if_pos h]⟩
  · obtain ⟨K, r, hr⟩ := far_ok ls (by omega) ls.length 0 (by omega)
    exact ⟨K, r, by rw [if_neg h]; exact hr⟩
theorem far_c (ls : List (List Int)) : ∃ r, ∀ (A : Option Addr) (c : Nat) (w : World), Lss w A ls → ls.length ≤ c → Calls Try.prog 35 #[.slice A ls.length c] w fun e w' => e = .returned (.bool r) ∧ Below w.heap.size w w' := by
  obtain ⟨K, r, h⟩ := far_f ls
  exact ⟨r, fun A c w hr hc => (PSlotsEvents.psalterylaw28_far.calls K A c ls r w hr hc h).mono fun e w' h => ⟨h.1, h.2.below⟩⟩

set_option maxRecDepth 100000 in
set_option maxHeartbeats 1000000 in
theorem comes_no (S F k stop : Int) (A : Option Addr) (n c : Nat) (h : ¬ (Link S F ∧ 0 ≤ k ∧ k < 16777216) ∨ stop < 0 ∨ 4096 < stop) (w : World) :
    Calls Try.prog 36 #[.agg #[.int .i64 S, .int .i64 F], .int .i64 k, .int .i64 stop, .slice A n c] w fun e w' => e = .returned (.tuple #[.bool false, .int .i64 1]) ∧ Below w.heap.size w w' := by
  by_cases hm : Link S F ∧ 0 ≤ k ∧ k < 16777216
  · have hs : stop < 0 ∨ 4096 < stop := by rcases h with h | h; exact absurd hm h; exact h
    clear h
    rcases hs with hs | hs
    all_goals
      go_enter Try.func36, Try.ntmps36
      go_wp2_with fail
      refine (may_yes hm.1 hm.2 _).mono ?_
      rintro e w1 ⟨rfl, hb1⟩
      go_wp2
      go_ret2
      exact ⟨rfl, bt (ba (br w) _) hb1⟩
  · clear h
    go_enter Try.func36, Try.ntmps36
    go_wp2_with fail
    refine (may_no hm _).mono ?_
    rintro e w1 ⟨rfl, hb1⟩
    go_wp2
    go_ret2
    exact ⟨rfl, bt (ba (br w) _) hb1⟩
set_option maxRecDepth 100000 in
set_option maxHeartbeats 1000000 in
theorem events_no (S F stop : Int) (A : Option Addr) (n c : Nat) (h : ¬ Link S F ∨ stop < 0 ∨ 4096 < stop) (w : World) :
    Calls Try.prog 37 #[.agg #[.int .i64 S, .int .i64 F], .int .i64 stop, .slice A n c] w fun e w' => e = .returned (.tuple #[.slice none 0 0, .int .i64 1]) ∧ Below w.heap.size w w' := by
  by_cases hm : Link S F
  · have hs : stop < 0 ∨ 4096 < stop := by rcases h with h | h; exact absurd hm h; exact h
    clear h
    rcases hs with hs | hs
    all_goals
      go_enter Try.func37, Try.ntmps37
      go_wp2_with fail
      refine (may_yes hm (by omega) _).mono ?_
      rintro e w1 ⟨rfl, hb1⟩
      go_wp2
      go_ret2
      exact ⟨rfl, bt (ba (br w) _) hb1⟩
  · clear h
    go_enter Try.func37, Try.ntmps37
    go_wp2_with fail
    refine (may_no (fun h => hm h.1) _).mono ?_
    rintro e w1 ⟨rfl, hb1⟩
    go_wp2
    go_ret2
    exact ⟨rfl, bt (ba (br w) _) hb1⟩

set_option maxRecDepth 100000 in
set_option maxHeartbeats 2000000 in
theorem sevents_bad (S F k stop : Int) (ls : List (List Int)) (A : Option Addr) (c : Nat) (h : ¬ Link S F ∨ stop < 0 ∨ 4096 < stop) (w : World) (hr : Lss w A ls) (hc : ls.length ≤ c) :
    Calls Try.prog 8 #[.agg #[.int .i64 S, .int .i64 F], .int .i64 k, .int .i64 stop, .slice A ls.length c] w fun e w' => e = .returned (.bool true) ∧ Below w.heap.size w w' := by
  have HR := Lib.hid hr
  clear hr
  obtain ⟨r, hfar⟩ := far_c ls
  have HFAR := Lib.hid hfar
  have H := Lib.hid h
  clear hfar h
  go_enter Try.func8, Try.ntmps8
  go_wp2_with fail
  refine (alive_c _).mono ?_
  rintro e w1 ⟨rfl, hb1⟩
  have hbox := Box2.keep (Box2.init w (.int .i64 S) (.int .i64 F) 34) hb1
  obtain ⟨⟨c0, c1⟩, hb, hlt⟩ := id hbox
  clear hb1
  go_wp2_with fail
  refine (HFAR.out _ _ _ (Kd.C_below HR.out hb) hc).mono ?_
  rintro e w2 ⟨rfl, hb2⟩
  have hbox2 := Box2.keep hbox hb2
  clear hbox hb2 hb hlt c0 c1
  obtain ⟨⟨c0, c1⟩, hb, hlt⟩ := id hbox2
  cases r with
  | true =>
    go_wp2
    go_ret
    exact ⟨rfl, hb⟩
  | false =>
    by_cases h34 : 300 < stop ∧ stop ≤ 4096
    · obtain ⟨h3, h4⟩ := h34
      go_wp2
      go_ret
      exact ⟨rfl, hb⟩
    · rcases (show stop < 0 ∨ 4096 < stop ∨ (0 ≤ stop ∧ stop ≤ 300) by omega) with h3 | h3 | ⟨h3, h4⟩
      all_goals
        clear h34
        go_wp2_with fail
        refine (comes_no S F k stop _ _ _ (by rcases H.out with h | h; exact .inl (fun h' => h h'.1); exact .inr h) _).mono ?_
        rintro e w3 ⟨rfl, hb3⟩
        have hbox3 := Box2.keep hbox2 hb3
        clear hbox2 hb3 hb hlt c0 c1
        obtain ⟨⟨c0, c1⟩, hb, hlt⟩ := id hbox3
        go_wp2_with fail
        refine (events_no S F stop _ _ _ H.out _).mono ?_
        rintro e w4 ⟨rfl, hb4⟩
        have hbox4 := Box2.keep hbox3 hb4
        clear hbox3 hb4 hb hlt c0 c1
        obtain ⟨⟨c0, c1⟩, hb, hlt⟩ := id hbox4
        by_cases hL : Link S F
        · go_wp2_with fail
          refine (rcheck_yes hL _).mono ?_
          rintro e w5 ⟨rfl, hb5⟩
          have hb' := bt hb hb5
          clear hbox4 hb hb5 hlt c0 c1
          first
            | (exfalso; have := H.out; rcases this with h | h | h; exact h hL; omega; omega; done)
            | (go_wp2; go_ret; exact ⟨rfl, hb'⟩)
        · go_wp2_with fail
          refine (rcheck_no hL _).mono ?_
          rintro e w5 ⟨rfl, hb5⟩
          have hb' := bt hb hb5
          clear hbox4 hb hb5 hlt c0 c1
          go_wp2
          go_ret
          exact ⟨rfl, hb'⟩

theorem Box3g.keep {w W w2 : World} {B g n : Nat} {a b v : Value} (h : (W.cell? ⟨B, 0, none⟩ = some a ∧ W.cell? ⟨B, 1, none⟩ = some b ∧ W.cell? ⟨g, n, none⟩ = some v) ∧ Below w.heap.size w W ∧ B < W.heap.size ∧ g < W.heap.size) (hb : Below W.heap.size W w2) :
    (w2.cell? ⟨B, 0, none⟩ = some a ∧ w2.cell? ⟨B, 1, none⟩ = some b ∧ w2.cell? ⟨g, n, none⟩ = some v) ∧ Below w.heap.size w w2 ∧ B < w2.heap.size ∧ g < w2.heap.size := by
  obtain ⟨⟨h1, h2, h3⟩, h4, h5, h6⟩ := h
  obtain ⟨c1, -⟩ := bcell hb
  exact ⟨⟨by rw [c1 _ _ h5]; exact h1, by rw [c1 _ _ h5]; exact h2, by rw [c1 _ _ h6]; exact h3⟩, bt h4 hb, Nat.lt_of_lt_of_le h5 hb.size, Nat.lt_of_lt_of_le h6 hb.size⟩
theorem Box3g.drew {w W : World} {B g n : Nat} {a b v : Value} (h : (W.cell? ⟨B, 0, none⟩ = some a ∧ W.cell? ⟨B, 1, none⟩ = some b ∧ W.cell? ⟨g, n, none⟩ = some v) ∧ Below w.heap.size w W ∧ B < W.heap.size ∧ g < W.heap.size) :
    (W.drew.cell? ⟨B, 0, none⟩ = some a ∧ W.drew.cell? ⟨B, 1, none⟩ = some b ∧ W.drew.cell? ⟨g, n, none⟩ = some v) ∧ Below w.heap.size w W.drew ∧ B < W.drew.heap.size ∧ g < W.drew.heap.size := ⟨h.1, bd h.2.1, h.2.2⟩
theorem evL_at (S F stop : Int) (ls : List (List Int)) (m n : Nat) (h : n < m) : rdOf false (evL S F stop ls m m) (n : Int) = comesB S F (n : Int) stop ls := by
  unfold rdOf evL
  rw [Int.toNat_natCast, List.getD_eq_getElem?_getD, List.getElem?_map, List.getElem?_range h]
  simp [h]

set_option maxRecDepth 100000 in
set_option maxHeartbeats 2000000 in
theorem sevents_good (S F k : Int) (m : Nat) (ls : List (List Int)) (A : Option Addr) (c : Nat) (hL : Link S F) (hm : m ≤ 4096) (w : World) (hr : Lss w A ls) (hc : ls.length ≤ c) :
    Calls Try.prog 8 #[.agg #[.int .i64 S, .int .i64 F], .int .i64 k, .int .i64 m, .slice A ls.length c] w fun e w' => e = .returned (.bool true) ∧ Below w.heap.size w w' := by
  have HR := Lib.hid hr
  clear hr
  obtain ⟨r, hfar⟩ := far_c ls
  have HFAR := Lib.hid hfar
  clear hfar
  go_enter Try.func8, Try.ntmps8
  go_wp2_with fail
  refine (alive_c _).mono ?_
  rintro e w1 ⟨rfl, hb1⟩
  have hbox := Box2.keep (Box2.init w (.int .i64 S) (.int .i64 F) 34) hb1
  obtain ⟨⟨c0, c1⟩, hb, hlt⟩ := id hbox
  clear hb1
  go_wp2_with fail
  refine (HFAR.out _ _ _ (Kd.C_below HR.out hb) hc).mono ?_
  rintro e w2 ⟨rfl, hb2⟩
  have hbox2 := Box2.keep hbox hb2
  clear hbox hb2 hb hlt c0 c1
  obtain ⟨⟨c0, c1⟩, hb, hlt⟩ := id hbox2
  cases r with
  | true =>
    go_wp2
    go_ret
    exact ⟨rfl, hb⟩
  | false =>
    by_cases h3 : 300 < m
    · go_wp2
      go_ret
      exact ⟨rfl, hb⟩
    · obtain ⟨is, er, hcm, hfin⟩ : ∃ (is : Bool) (er : Int), (∀ W, Below w.heap.size w W → Calls Try.prog 36 #[.agg #[.int .i64 S, .int .i64 F], .int .i64 k, .int .i64 m, .slice A ls.length c] W fun e w' => e = .returned (.tuple #[.bool is, .int .i64 er]) ∧ Below W.heap.size W w') ∧
          ((0 ≤ k ∧ k < 16777216) ∧ is = comesB S F k m ls ∧ er = 0 ∨ ¬ (0 ≤ k ∧ k < 16777216) ∧ is = false ∧ er = 1) := by
        by_cases hk : 0 ≤ k ∧ k < 16777216
        · exact ⟨_, 0, fun W hW => comes_c S F k m ls A c hL hk (by omega) W (Kd.C_below HR.out hW) hc, .inl ⟨hk, rfl, rfl⟩⟩
        · exact ⟨false, 1, fun W hW => comes_no S F k m A _ c (.inl fun h => hk h.2) W, .inr ⟨hk, rfl, rfl⟩⟩
      have HC := Lib.hid hcm
      have HF := Lib.hid hfin
      clear hcm hfin
      go_wp2_with fail
      refine (HC.out _ hb).mono ?_
      rintro e w3 ⟨rfl, hb3⟩
      have hbox3 := Box2.keep hbox2 hb3
      clear hbox2 hb3 hb hlt c0 c1
      obtain ⟨⟨c0, c1⟩, hb, hlt⟩ := id hbox3
      go_wp2_with fail
      refine (events_yes S F m ls A c hL hm _ (Kd.C_below HR.out hb) hc).mono ?_
      rintro e w4 ⟨g, cg, rfl, ho, hb4⟩
      have hbox4 := Box2.keep hbox3 hb4
      clear hbox3 hb4 hb hlt c0 c1
      obtain ⟨⟨c0, c1⟩, hb, hlt⟩ := id hbox4
      rw [Int.toNat_natCast] at ho ⊢
      go_wp2_with fail
      refine (rcheck_yes hL _).mono ?_
      rintro e w5 ⟨rfl, hb5⟩
      have hbox5 := Box2.keep hbox4 hb5
      have ho5 := own_move ho (w1 := w5) (fun k hk => hb5.block k (own_lt ho k hk))
      clear hbox4 hb5 hb hlt c0 c1 ho
      obtain ⟨⟨c0, c1⟩, hb, hlt⟩ := id hbox5
      have HB := Lib.hid hbox5
      have HO := Lib.hid ho5
      clear hbox5 ho5 c0 c1
      go_wp2
      go_loopg [13] m (fun gk x wr => ∃ n : Nat, n ≤ m ∧ gk = m - n ∧ x = .int .i64 n ∧ Below w5.heap.size w5 wr)
      case atStart => exact ⟨0, by omega, by omega, rfl, br _⟩
      case round =>
        obtain ⟨n, hn, rfl, rfl, hbw⟩ := hrel
        have hbx := Box2.keep HB.out hbw
        by_cases hlt' : n < m
        · have hO := own_move HO.out (w1 := wr) (fun k hk => hbw.block k (own_lt HO.out k hk))
          obtain ⟨hz0, -⟩ := own_at_of (d := false) hO (n : Int) (by omega) (by omega)
          rw [Int.toNat_natCast, evL_at _ _ _ _ _ _ hlt'] at hz0
          have hgl : g < wr.heap.size := own_lt hO g rfl
          have hS0 : (wr.cell? ⟨w.heap.size, 0, none⟩ = some (.int .i64 S) ∧ wr.cell? ⟨w.heap.size, 1, none⟩ = some (.int .i64 F) ∧ wr.cell? ⟨g, n, none⟩ = some (.bool (comesB S F n m ls))) ∧ Below w.heap.size w wr ∧ w.heap.size < wr.heap.size ∧ g < wr.heap.size :=
            ⟨⟨hbx.1.1, hbx.1.2, hz0⟩, hbx.2.1, hbx.2.2, hgl⟩
          clear hO hz0 hbx
          go_wp2
          go_region_held3 (fun w' => (w'.cell? ⟨w.heap.size, 0, none⟩ = some (.int .i64 S) ∧ w'.cell? ⟨w.heap.size, 1, none⟩ = some (.int .i64 F) ∧ w'.cell? ⟨g, n, none⟩ = some (.bool (comesB S F n m ls))) ∧ Below w.heap.size w w' ∧ w.heap.size < w'.heap.size ∧ g < w'.heap.size)
            (first | exact Box3g.drew (by assumption) | exact Box3g.keep (by assumption) (by assumption))
            (first
              | (go_at_call 38; refine (rcomes_c S F n m ls A c hL (by omega) (by omega) _ (Kd.C_below HR.out (by exact (‹(_ ∧ _ ∧ _) ∧ Below w.heap.size w _ ∧ _›).2.1)) hc).mono ?_; rintro e w6 ⟨rfl, hb6⟩)
              | fail)
          go_wp2
          go_roundg (m - (n + 1))
          case measure => omega
          case rel => exact ⟨n + 1, by omega, rfl, by go_num, bt (bd hbw) hb6⟩
        · have hnm : ¬ (n < m) := hlt'
          obtain ⟨⟨c0, c1⟩, hb, hlt⟩ := id hbx
          rcases HF.out with ⟨hk, e1, e2⟩ | ⟨hk, e1, e2⟩
          · subst e1 e2
            obtain ⟨k0, k1⟩ := hk
            go_wp2_with (go_at_call 38; refine (rcomes_c S F k m ls A c hL ⟨k0, k1⟩ (by omega) _ (Kd.C_below HR.out hb) hc).mono ?_; rintro e w6 ⟨rfl, hb6⟩)
            go_ret
            exact ⟨rfl, bt hb hb6⟩
          · subst e1 e2
            rcases (show k < 0 ∨ 16777216 ≤ k by omega) with h | h
            all_goals
              go_wp2
              go_ret
              exact ⟨rfl, hb⟩

theorem sevents_any (S F k stop : Int) (ls : List (List Int)) (A : Option Addr) (c : Nat) (w : World) (hr : Lss w A ls) (hc : ls.length ≤ c) :
    Calls Try.prog 8 #[.agg #[.int .i64 S, .int .i64 F], .int .i64 k, .int .i64 stop, .slice A ls.length c] w fun e w' => e = .returned (.bool true) ∧ Below w.heap.size w w' := by
  by_cases h : ¬ Link S F ∨ stop < 0 ∨ 4096 < stop
  · exact sevents_bad S F k stop ls A c h w hr hc
  · obtain ⟨m, rfl⟩ := Int.eq_ofNat_of_zero_le (show 0 ≤ stop by omega)
    by_cases hL : Link S F
    · exact sevents_good S F k m ls A c hL (by omega) w hr hc
    · exact absurd (.inl hL) h

theorem sevents_of (S F k stop : Int) (ls : List (List Int)) (A : Option Addr) (n c : Nat) (w : World) (hr : Kd.C (Kd.slice 3 (Kd.int .i64)) w A n ls) (hc : n ≤ c) :
    Calls Try.prog 8 #[.agg #[.int .i64 S, .int .i64 F], .int .i64 k, .int .i64 stop, .slice A n c] w fun e w' => e = .returned (.bool true) ∧ Below w.heap.size w w' := by
  obtain rfl := hr.1
  exact sevents_any S F k stop ls A c w hr hc
end Go.Proofs.Ytidfahjebjaneaa.Slt
