/- The walk of the statement SlotsOnce. -/
import Derived.Test.YtidfahjebjaneaaSlots5
set_option linter.unusedVariables false
set_option linter.unusedSimpArgs false
namespace Go.Proofs.Ytidfahjebjaneaa.Slt
open Go.RowKit Go.Proofs.YtidfahjebjaneaaW.PrintWords Go.Proofs.YtidfahjebjaneaaW.PrintLast Go.Proofs.YtidfahjebjaneaaW.PrintMore Go.Proofs.Ytidfahjebjaneaa.PSlotsTurns
open Go.Proofs.Ytidfahjebjaneaa.PSlotsEvents (rd_L1 at_L1)

theorem far2_ok (ls : List (List Int)) (hl : ls.length ≤ 100) : ∀ n i, i + n = ls.length → (∀ j, j < i → (rd_L1 ls (j : Int)).length ≤ 100) →
    ∃ K r, PSlotsEvents.psalterylaw28_far.l0 K ls (i : Int) = some r ∧ (r = false → ∀ j, j < ls.length → (rd_L1 ls (j : Int)).length ≤ 100)
  | 0, i, h, hj => ⟨1, false, by simp only [PSlotsEvents.psalterylaw28_far.l0]; rw [if_neg (by omega)], fun _ j hj' => hj j (by omega)⟩
  | n + 1, i, h, hj => by
    by_cases h2 : ((rd_L1 ls (i : Int)).length : Int) > 100
    · exact ⟨1, true, by simp only [PSlotsEvents.psalterylaw28_far.l0]; rw [if_pos (by omega), if_pos (by omega), if_pos h2], fun h => by cases h⟩
    · obtain ⟨K, r, hr, hq⟩ := far2_ok ls hl n (i + 1) (by omega) (fun j hj' => by
        rcases Nat.lt_or_ge j i with h | h
        · exact hj j h
        · obtain rfl : j = i := by omega
          omega)
      refine ⟨K + 1, r, ?_, hq⟩
      simp only [PSlotsEvents.psalterylaw28_far.l0]
      rw [if_pos (by omega), if_pos (by omega), if_neg h2, show wrap64 ((i : Int) + 1) = ((i + 1 : Nat) : Int) from by unfold wrap64; omega]
      exact hr
def Small (ls : List (List Int)) : Prop := ls.length ≤ 100 ∧ ∀ j, j < ls.length → (rd_L1 ls (j : Int)).length ≤ 100
theorem far2_c (ls : List (List Int)) : ∃ r, (r = false → Small ls) ∧ ∀ (A : Option Addr) (c : Nat) (w : World), Lss w A ls → ls.length ≤ c → Calls Try.prog 35 #[.slice A ls.length c] w fun e w' => e = .returned (.bool r) ∧ Below w.heap.size w w' := by
  have key : ∃ K r, PSlotsEvents.psalterylaw28_far.f K ls = some r ∧ (r = false → Small ls) := by
    unfold PSlotsEvents.psalterylaw28_far.f
    by_cases h : (ls.length : Int) > 100
    · exact ⟨0, true, by rw [if_pos h], fun h => by cases h⟩
    · obtain ⟨K, r, hr, hq⟩ := far2_ok ls (by omega) ls.length 0 (by omega) (fun j hj => by omega)
      exact ⟨K, r, by rw [if_neg h]; exact hr, fun e => ⟨by omega, hq e⟩⟩
  obtain ⟨K, r, h, hq⟩ := key
  exact ⟨r, hq, fun A c w hr hc => (PSlotsEvents.psalterylaw28_far.calls K A c ls r w hr hc h).mono fun e w' h => ⟨h.1, h.2.below⟩⟩

theorem pairs_pos : ∀ S F : Fin 17, 1 ≤ S.val → 1 ≤ F.val → F.val ≤ 8 → 1 ≤ (pairs S F).length := by decide +kernel
theorem ps_all {S F : Int} (h : Link S F) : 1 ≤ (ps S F).length ∧ ((ps S F).length : Int) ≤ S ∧ ∀ q ∈ ps S F, (q.1 : Int) < F ∧ (q.2 : Int) < S ∧ ((q.2 : Int) % F = q.1) := by
  obtain ⟨s, f, rfl, rfl, h1, h2, h3⟩ := h.nat
  have h0 : 1 ≤ s := by unfold Link at h; omega
  have hp := pairs_pos ⟨s, by omega⟩ ⟨f, by omega⟩ h0 h2 h3
  have := pairs_in h1 h2 h3
  refine ⟨hp, by unfold ps; simp; omega, fun q hq => ?_⟩
  have := this.2 q hq
  refine ⟨by omega, by omega, ?_⟩
  rw [← this.2.2]; push_cast; rfl

theorem eqA48' (d : Nat) (w : World) (x0 y0 : Int) (x1 y1 : Int) :
    (Op.equalIn (d + 2) 48 (.agg #[.int .i64 x0, .int .i64 x1]) (.agg #[.int .i64 y0, .int .i64 y1])).run Try.prog w = .ok (x0 == y0 && (x1 == y1)) w := by
  refine eqA_of Try.underlying48 (by kernel_rfl) ?_
  refine eqf_cons (by rfl) (by go_simp; rfl) (by go_simp; rfl) (by go_simp) ?_
  exact eqf_last (by rfl) (by go_simp; rfl) (by go_simp; rfl) (by go_simp)
theorem eql48 (w : World) (x0 x1 y0 y1 : Int) (h : (x0 == y0 && x1 == y1) = false) : (binOp .eql 48 (.agg #[.int .i64 x0, .int .i64 x1]) (.agg #[.int .i64 y0, .int .i64 y1])).run Try.prog w = .ok (.bool false) w := by
  simp only [binOp]
  simp only [Op.equal, Op.maxDepth, Sem.run_bind, eqA48' 9998 w x0 y0 x1 y1, h]
  simp

/-- a row of which some entries below n are 0 now -/
def zr (L : List Int) (b : Nat → Bool) (n : Nat) : List Int := (List.range L.length).map fun s => if s < n ∧ b s = true then 0 else rd L (s : Int)
theorem zr_length (L : List Int) (b : Nat → Bool) (n : Nat) : (zr L b n).length = L.length := by simp [zr]
theorem zr_zero (L : List Int) (b : Nat → Bool) : zr L b 0 = L := by
  apply List.ext_getElem
  · simp [zr]
  · intro j h1 h2
    simp [zr, rd, List.getD_eq_getElem?_getD, List.getElem?_eq_getElem h2]
theorem zr_yes (L : List Int) (b : Nat → Bool) (n : Nat) (h : n < L.length) (hb : b n = true) : (zr L b n).set n 0 = zr L b (n + 1) := by
  apply List.ext_getElem
  · simp [zr]
  · intro j h1 h2
    simp only [zr, List.getElem_set, List.getElem_map, List.getElem_range]
    by_cases e : n = j
    · subst e; rw [if_pos rfl, if_pos ⟨by omega, hb⟩]
    · rw [if_neg e]
      by_cases e2 : j < n ∧ b j = true
      · rw [if_pos e2, if_pos ⟨by omega, e2.2⟩]
      · rw [if_neg e2, if_neg (fun h => e2 ⟨by omega, h.2⟩)]
theorem zr_no (L : List Int) (b : Nat → Bool) (n : Nat) (hb : b n = false) : zr L b n = zr L b (n + 1) := by
  unfold zr
  apply List.map_congr_left
  intro j _
  by_cases e2 : j < n ∧ b j = true
  · rw [if_pos e2, if_pos ⟨by omega, e2.2⟩]
  · rw [if_neg e2, if_neg (fun h => e2 ⟨by rcases Nat.lt_or_ge j n with h' | h'; exact h'; exact absurd h.2 (by rw [show j = n by omega, hb]; decide), h.2⟩)]
/-- is nothing lost there any more -/
def gone (I J : Int) (i s : Nat) : Bool := (i : Int) == I || (s : Int) == J
/-- what the second list of losses is, as far as n rows -/
def zeroed (ls : List (List Int)) (I J : Int) (n : Nat) : List (List Int) := (List.range n).map fun (i : Nat) => zr (rd_L1 ls (i : Int)) (gone I J i) (rd_L1 ls (i : Int)).length
theorem zeroed_succ (ls : List (List Int)) (I J : Int) (n : Nat) : zeroed ls I J (n + 1) = zeroed ls I J n ++ [zr (rd_L1 ls (n : Int)) (gone I J n) (rd_L1 ls (n : Int)).length] := by
  unfold zeroed; rw [List.range_succ, List.map_append]; rfl
theorem zeroed_length (ls : List (List Int)) (I J : Int) (n : Nat) : (zeroed ls I J n).length = n := by simp [zeroed]
theorem loss_mono (ls : List (List Int)) (I J : Int) (i s : Int) (hi : 0 ≤ i) (hs : 0 ≤ s) (h : lossB (zeroed ls I J ls.length) i s = true) : lossB ls i s = true := by
  unfold lossB at h ⊢
  rw [zeroed_length] at h
  by_cases h1 : (ls.length : Int) ≤ i
  · rw [decide_eq_true h1]; rfl
  · rw [decide_eq_false h1, Bool.false_or] at h ⊢
    obtain ⟨n, rfl⟩ := Int.eq_ofNat_of_zero_le hi
    obtain ⟨t, rfl⟩ := Int.eq_ofNat_of_zero_le hs
    have hrow : rd_L1 (zeroed ls I J ls.length) (n : Int) = zr (rd_L1 ls (n : Int)) (gone I J n) (rd_L1 ls (n : Int)).length := by
      conv => lhs; unfold rd_L1 zeroed
      rw [Int.toNat_natCast, List.getD_eq_getElem?_getD, List.getElem?_map, List.getElem?_range (by omega)]
      rfl
    rw [hrow, zr_length] at h
    by_cases h2 : ((rd_L1 ls (n : Int)).length : Int) ≤ t
    · rw [decide_eq_true h2]; rfl
    · rw [decide_eq_false h2, Bool.false_or] at h ⊢
      have hv : rd (zr (rd_L1 ls (n : Int)) (gone I J n) (rd_L1 ls (n : Int)).length) (t : Int) = if gone I J n t = true then 0 else rd (rd_L1 ls (n : Int)) (t : Int) := by
        conv => lhs; unfold rd zr
        rw [Int.toNat_natCast, List.getD_eq_getElem?_getD, List.getElem?_map, List.getElem?_range (by omega)]
        simp only [Option.map_some, Option.getD_some]
        by_cases g : gone I J n t = true
        · rw [if_pos ⟨by omega, g⟩, if_pos g]
        · rw [if_neg (fun h => g h.2), if_neg g]
      rw [hv] at h
      split at h
      · simp at h
      · exact h
theorem comes_mono (S F k stop I J : Int) (hk : 0 ≤ k) (ls : List (List Int)) (h : comesB S F k stop ls = true) : comesB S F k stop (zeroed ls I J ls.length) = true := by
  unfold comesB at h ⊢
  rw [List.any_eq_true] at h ⊢
  obtain ⟨q, hq, hh⟩ := h
  refine ⟨q, hq, ?_⟩
  unfold hitB at hh ⊢
  rw [Bool.and_eq_true] at hh ⊢
  refine ⟨hh.1, ?_⟩
  cases hl : lossB (zeroed ls I J ls.length) (k + (q.1 : Int)) q.2 with
  | false => rfl
  | true =>
    have := loss_mono ls I J (k + (q.1 : Int)) q.2 (by omega) (by omega) hl
    rw [this] at hh; simp at hh

theorem infoI : (Try.prog.info? 3).map (fun i => (i.zero, i.size, i.bytes)) = some (some (.int .i64 0), 1, 8) := by kernel_rfl
theorem infoR : (Try.prog.info? 69).map (fun i => (i.zero, i.size, i.bytes)) = some (some (.slice none 0 0), 1, 24) := by kernel_rfl
theorem reads_of_C {w : World} {k : IntKind} {A : Option Addr} {n : Nat} {xs : List Int} (h : (Kd.int k).C w A n xs) : ReadsInt w k A n xs := by
  refine ⟨h.1, h.2.1, fun hn => ?_⟩
  obtain ⟨ad, e, -⟩ := h.2.2 hn
  refine ⟨ad, e, fun j hj => ?_⟩
  obtain ⟨ad', e', hc⟩ := Kd.at_int h (j : Int) (by omega) (by omega)
  rw [e] at e'
  injection e' with e'
  subst e'
  rw [Int.toNat_natCast] at hc
  rw [hc]; unfold rd; rw [Int.toNat_natCast]
theorem own_pos' {w : World} {base n size : Nat} {e : TypeId} {v : Value} {xs : List Value} (h : w.ownsRow base e size v n xs) (hn : 0 < n) : ∃ g cap, v = .slice (some ⟨g, 0, none⟩) n cap ∧ n ≤ cap ∧ base ≤ g := by
  rcases h.2 with ⟨-, h2⟩ | ⟨g, cap, cur, h1, h2, -, h3, -⟩
  · omega
  · exact ⟨g, cap, h1, h3, h2⟩

theorem S4.keep {w W w2 : World} {p q r s : Addr} {a b c d : Value} (h : (W.cell? p = some a ∧ W.cell? q = some b ∧ W.cell? r = some c ∧ W.cell? s = some d) ∧ Below w.heap.size w W) (hb : Below W.heap.size W w2) :
    (w2.cell? p = some a ∧ w2.cell? q = some b ∧ w2.cell? r = some c ∧ w2.cell? s = some d) ∧ Below w.heap.size w w2 :=
  ⟨⟨pw_cell_below hb h.1.1, pw_cell_below hb h.1.2.1, pw_cell_below hb h.1.2.2.1, pw_cell_below hb h.1.2.2.2⟩, bt h.2 hb⟩
theorem S4.drew {w W : World} {p q r s : Addr} {a b c d : Value} (h : (W.cell? p = some a ∧ W.cell? q = some b ∧ W.cell? r = some c ∧ W.cell? s = some d) ∧ Below w.heap.size w W) :
    (W.drew.cell? p = some a ∧ W.drew.cell? q = some b ∧ W.drew.cell? r = some c ∧ W.drew.cell? s = some d) ∧ Below w.heap.size w W.drew := ⟨h.1, bd h.2⟩
theorem turn_at {S F k i s : Int} (hL : Link S F) (hi : 0 ≤ i ∧ i < 16777216) (hs : 0 ≤ s ∧ s < S) (h : i - s % F = k) (hk : 0 ≤ k) (w : World) :
    Calls Try.prog 19 #[.agg #[.int .i64 S, .int .i64 F], .int .i64 i, .int .i64 s] w fun e w' => e = .returned (.tuple #[.int .i64 k, .int .i64 0]) ∧ Below w.heap.size w w' := by
  have hv : turnV S F i s = (k, 0) := by unfold turnV; rw [if_pos hL, if_pos (by omega), h]
  have := turn_c S F i s w
  rw [hv] at this
  exact this

/-- the two boxes of the call (the link; an interval and a slot), what is below, that both lie there -/
def Bx (w : World) (S F I J : Int) (W : World) : Prop :=
  (W.cell? ⟨w.heap.size, 0, none⟩ = some (.int .i64 S) ∧ W.cell? ⟨w.heap.size, 1, none⟩ = some (.int .i64 F)) ∧ (W.cell? ⟨w.heap.size + 1, 0, none⟩ = some (.int .i64 I) ∧ W.cell? ⟨w.heap.size + 1, 1, none⟩ = some (.int .i64 J)) ∧
    Below w.heap.size w W ∧ w.heap.size + 1 < W.heap.size
theorem Bx.init (w : World) (S F I J : Int) (t t' : TypeId) : Bx w S F I J ((w.alloc (.cells #[.int .i64 S, .int .i64 F] t)).alloc (.cells #[.int .i64 I, .int .i64 J] t')) := by
  refine ⟨⟨?_, ?_⟩, ⟨?_, ?_⟩, ba (ba (br w) _) _, ?_⟩ <;> simp
theorem Bx.keep {w W w2 : World} {S F I J : Int} (h : Bx w S F I J W) (hb : Below W.heap.size W w2) : Bx w S F I J w2 := by
  obtain ⟨⟨h1, h2⟩, ⟨h3, h4⟩, h5, h6⟩ := h
  obtain ⟨c1, -⟩ := bcell hb
  exact ⟨⟨by rw [c1 _ _ (by omega)]; exact h1, by rw [c1 _ _ (by omega)]; exact h2⟩, ⟨by rw [c1 _ _ h6]; exact h3, by rw [c1 _ _ h6]; exact h4⟩, bt h5 hb, Nat.lt_of_lt_of_le h6 hb.size⟩
theorem Bx.below {w W : World} {S F I J : Int} (h : Bx w S F I J W) : Below w.heap.size w W := h.2.2.1

set_option maxRecDepth 100000 in
set_option maxHeartbeats 16000000 in
theorem once_any (S F k stop I J : Int) (ls : List (List Int)) (A : Option Addr) (c : Nat) (w : World) (hr : Lss w A ls) (hc : ls.length ≤ c) :
    Calls Try.prog 9 #[.agg #[.int .i64 S, .int .i64 F], .int .i64 k, .int .i64 stop, .slice A ls.length c, .agg #[.int .i64 I, .int .i64 J]] w fun e w' => e = .returned (.bool true) ∧ Below w.heap.size w w' := by
  have HR := Lib.hid hr
  clear hr
  obtain ⟨r, hsm, hfar⟩ := far2_c ls
  have HFAR := Lib.hid hfar
  have HSM := Lib.hid hsm
  clear hfar hsm
  go_enter Try.func9, Try.ntmps9
  go_wp2_with fail
  have hbx := Bx.init w S F I J 34 81
  refine (alive_c _).mono ?_
  rintro e w1 ⟨rfl, hb1⟩
  replace hbx := hbx.keep hb1
  clear hb1
  go_wp2_with fail
  refine (HFAR.out _ _ _ (Kd.C_below HR.out hbx.below) hc).mono ?_
  rintro e w2 ⟨rfl, hb2⟩
  replace hbx := hbx.keep hb2
  clear hb2
  obtain ⟨⟨c0, c1⟩, -, hb, -⟩ := id hbx
  cases r with
  | true =>
    go_wp2
    go_ret
    exact ⟨rfl, hb⟩
  | false =>
    have HSmall := Lib.hid (HSM.out rfl)
    by_cases hL : Link S F
    · go_wp2_with fail
      refine (check_yes hL _).mono ?_
      rintro e w3 ⟨rfl, hb3⟩
      replace hbx := hbx.keep hb3
      clear hb hb3 c0 c1
      obtain ⟨⟨c0, c1⟩, -, hb, -⟩ := id hbx
      by_cases hk : 0 ≤ k ∧ k ≤ 1000
      · by_cases hst : 0 ≤ stop ∧ stop ≤ 60
        · obtain ⟨k0, k1⟩ := hk
          obtain ⟨s0, s1⟩ := hst
          obtain ⟨sp, rfl⟩ := Int.eq_ofNat_of_zero_le s0
          have sp60 : sp ≤ 60 := by omega
          clear s0 s1
          go_wp2_with fail
          refine (chances_yes hL ⟨k0, by omega⟩ _).mono ?_
          rintro e w4 ⟨v1, rfl, hR1, hb4⟩
          replace hbx := hbx.keep hb4
          clear hb hb4 c0 c1
          obtain ⟨⟨c0, c1⟩, -, hb, -⟩ := id hbx
          go_wp2_with fail
          refine (chances_yes hL ⟨by omega, by omega⟩ _).mono ?_
          rintro e w5 ⟨v2, rfl, hR2, hb5⟩
          replace hbx := hbx.keep hb5
          replace hR1 := Kd.R_below hR1 hb5
          clear hb hb5 c0 c1
          obtain ⟨⟨c0, c1⟩, -, hb, -⟩ := id hbx
          obtain ⟨A1, d1, rfl, -, hC1⟩ := Kd.R_reads hR1
          obtain ⟨A2, d2, rfl, -, hC2⟩ := Kd.R_reads hR2
          have l1 : ((ps S F).map fun q => P48 k.toNat q.1 q.2).length = (ps S F).length := List.length_map ..
          have l2 : ((ps S F).map fun q => P48 (k + 1).toNat q.1 q.2).length = (ps S F).length := List.length_map ..
          rw [l1] at hC1
          rw [l2] at hC2
          rw [l1, l2]
          have hps := ps_all hL
          obtain ⟨m, hm⟩ : ∃ m, m = (ps S F).length := ⟨_, rfl⟩
          rw [← hm] at hC1 hC2 hps ⊢
          obtain ⟨hm1, hmS, hq⟩ := hps
          have hS16 : S ≤ 16 := hL.2.1
          have HM := Lib.hid hm
          have HQ := Lib.hid hq
          clear hm l1 l2 hR1 hR2 hq
          go_wp2
          go_loopg [15] m (fun gk x wr => ∃ n : Nat, n ≤ m ∧ gk = m - n ∧ x = .int .i64 n ∧ Below w5.heap.size w5 wr)
          case atStart => exact ⟨0, by omega, by omega, rfl, br _⟩
          case round =>
            obtain ⟨n, hn, rfl, rfl, hbw⟩ := hrel
            by_cases hlt : n < m
            · have hnl : n < (ps S F).length := by rw [← HM.out]; exact hlt
              obtain ⟨ad1, rfl, x1, x2⟩ := at_T48 (Kd.C_below hC1 hbw) (n : Int) (by omega) (by omega)
              rw [Int.toNat_natCast] at x1 x2
              have r48 := rd48 (ps S F) k.toNat n hnl
              rw [Int.toNat_of_nonneg k0] at r48
              rw [r48.1] at x1
              rw [r48.2] at x2
              have hq := HQ.out _ (List.getElem_mem hnl)
              generalize (ps S F)[n] = q at hq x1 x2
              obtain ⟨q1, q2⟩ := q
              obtain ⟨hq1, hq2, hq3⟩ := hq
              simp only at x1 x2 hq1 hq2 hq3
              obtain ⟨i, hi⟩ : ∃ i : Int, i = k + (q1 : Int) := ⟨_, rfl⟩
              have hF8 : F ≤ 8 := hL.2.2.2
              have i0 : k ≤ i := by omega
              have i1 : i < k + F := by omega
              have HT := Lib.hid (fun W => turn_at hL (i := i) (s := q2) (k := k) (by omega) (by omega) (by rw [hq3]; omega) k0 W)
              have HI := Lib.hid hi
              have HQ3 := Lib.hid hq3
              rw [← hi] at x1
              clear hi hq3 r48 hnl
              have b1 : decide (i < k) = false := decide_eq_false (by omega)
              have b2 : decide (k + F ≤ i) = false := decide_eq_false (by omega)
              have g0 : IntKind.i64.wrap (k + F) = k + F := IntWalk.i64_in _ (by omega)
              have hS0 : (wr.cell? ⟨w.heap.size, 0, none⟩ = some (.int .i64 S) ∧ wr.cell? ⟨w.heap.size, 1, none⟩ = some (.int .i64 F) ∧ wr.cell? (ad1.add (n * 2)) = some (.int .i64 i) ∧ wr.cell? ⟨(ad1.add (n * 2)).block, (ad1.add (n * 2)).off + 1, none⟩ = some (.int .i64 q2)) ∧ Below w5.heap.size w5 wr :=
                ⟨⟨pw_cell_below hbw c0, pw_cell_below hbw c1, x1, x2⟩, hbw⟩
              clear x1 x2
              go_wp2
              go_region_held3 (fun w' => (w'.cell? ⟨w.heap.size, 0, none⟩ = some (.int .i64 S) ∧ w'.cell? ⟨w.heap.size, 1, none⟩ = some (.int .i64 F) ∧ w'.cell? (ad1.add (n * 2)) = some (.int .i64 i) ∧ w'.cell? ⟨(ad1.add (n * 2)).block, (ad1.add (n * 2)).off + 1, none⟩ = some (.int .i64 q2)) ∧ Below w5.heap.size w5 w')
                (first | exact S4.drew (by assumption) | exact S4.keep (by assumption) (by assumption))
                (first
                  | (go_at_call 19; refine (HT.out _).mono ?_; rintro e w6 ⟨rfl, hb6⟩)
                  | fail)
              have hS6 := ‹(w6.cell? _ = some _ ∧ _) ∧ Below w5.heap.size w5 w6›
              obtain ⟨⟨y0, y1, y2, y3⟩, hb6'⟩ := id hS6
              clear hS0 hbw hb6
              go_wp2
              go_quiet (fail)
              go_wp2
              go_loopg [18] m (fun gk x wr => ∃ n2 q' : Nat, n2 ≤ m ∧ gk = m - n2 ∧ x = .int .i64 n2 ∧ wr = w6.drewN q')
              case atStart => exact ⟨0, nq, by omega, by omega, rfl, rfl⟩
              case round =>
                obtain ⟨n2, q', hn2, rfl, rfl, rfl⟩ := hrel
                by_cases hlt2 : n2 < m
                · have hnl2 : n2 < (ps S F).length := by rw [← HM.out]; exact hlt2
                  obtain ⟨ad2, rfl, z1, z2⟩ := at_T48 (Kd.C_below hC2 hb6') (n2 : Int) (by omega) (by omega)
                  rw [Int.toNat_natCast] at z1 z2
                  have r48 := rd48 (ps S F) (k + 1).toNat n2 hnl2
                  rw [Int.toNat_of_nonneg (by omega)] at r48
                  rw [r48.1] at z1
                  rw [r48.2] at z2
                  have hq := HQ.out _ (List.getElem_mem hnl2)
                  generalize (ps S F)[n2] = q at hq z1 z2
                  obtain ⟨p1, p2⟩ := q
                  obtain ⟨-, -, hp3⟩ := hq
                  simp only at z1 z2 hp3
                  have hne : (i == k + 1 + (p1 : Int) && ((q2 : Int) == (p2 : Int))) = false := by
                    rw [Bool.and_eq_false_iff]
                    by_cases e : (q2 : Int) = p2
                    · left
                      rw [beq_eq_false_iff_ne]
                      intro h
                      have h1 := HI.out
                      have h2 := HQ3.out
                      rw [e, hp3] at h2
                      omega
                    · right; rw [beq_eq_false_iff_ne]; exact e
                  generalize k + 1 + (p1 : Int) = i2 at hne z1
                  have heq := fun W => eql48 W i (q2 : Int) i2 (p2 : Int) hne
                  clear hne hp3 r48 hnl2
                  go_wp2
                  go_quiet (fail)
                  go_wp2
                  go_roundg (m - (n2 + 1))
                  case measure => omega
                  case rel => exact ⟨n2 + 1, _, by omega, rfl, by go_num, rfl⟩
                · go_wp2
                  go_roundg (m - (n + 1))
                  case measure => omega
                  case rel => exact ⟨n + 1, by omega, rfl, by go_num, pw_below_drewN hb6' _⟩
            · go_wp2
              replace hbx := hbx.keep hbw
              clear hC1 hC2 hb c0 c1 hbw
              obtain ⟨hls, hrows⟩ := HSmall.out
              have HROWS := Lib.hid hrows
              clear hrows
              obtain ⟨w7, rfl⟩ : ∃ w7 : World, w7 = wr := ⟨_, rfl⟩
              go_loopg [19, 20] ls.length (fun gk v x W => ∃ i : Nat, i ≤ ls.length ∧ gk = ls.length - i ∧ x = .int .i64 i ∧ Hid (Kd.R (Kd.slice 3 (Kd.int .i64)) 69 W w7.heap.size (fun _ => True) v (zeroed ls I J i)) ∧ Below w7.heap.size w7 W)
              case atStart => exact ⟨0, by omega, by omega, rfl, Kd.R_nil _ _ _ _ _, br _⟩
              case round =>
                obtain ⟨i, hi, rfl, rfl, HRo, hbl⟩ := hrel
                by_cases hil : i < ls.length
                · obtain ⟨adl, A0, c0, rfl, y1, y2, hCi⟩ := at_L1 (Kd.C_below HR.out (bt hbx.below hbl)) (i : Int) (by omega) (by omega)
                  rw [Int.toNat_natCast] at y1
                  have hL100 := HROWS.out i hil
                  have HZS := Lib.hid (zeroed_succ ls I J i)
                  generalize rd_L1 ls (i : Int) = L at y1 y2 hCi hL100 HZS
                  have hrd := reads_of_C hCi
                  obtain ⟨w8, rfl⟩ : ∃ w8 : World, w8 = wr := ⟨_, rfl⟩
                  have y1' := fun o => pw_cell_below (ba (br w8) o) y1
                  have hbx8 := hbx.keep hbl
                  have HBX := Lib.hid hbx8
                  clear y1 hCi hbx8
                  go_wp2_with (at_builtin; refine print_append_row w8.heap.size rfl (.tmp 146) (.tmp 150) 69 3 .i64 8 rfl Try.underlying69 infoI (by decide) _ [] L _ _ _ rfl rfl (own_lit w8 w8.heap.size 3 .i64 [] (Nat.le_refl _) (by decide)) (hrd.below (ba (br w8) _)) (ba (br w8) _) (ba (br w8) _).size (by simp; omega) ?_; intro v3 w9 hown9 hB9 hg9 hat9)
                  rw [List.nil_append] at hown9
                  obtain ⟨A4, c4, rfl⟩ := own_slice hown9
                  clear hg9 hat9 y1' hrd
                  have hz0 := zr_zero L (gone I J i)
                  rw [← hz0, zr_length] at hown9
                  clear hz0
                  have hlen4 : (zr L (gone I J i) 0).length = L.length := zr_length _ _ _
                  clear hlen4
                  go_loopg [22] L.length (fun gk x W => ∃ n : Nat, n ≤ L.length ∧ gk = L.length - n ∧ x = .int .i64 n ∧ Hid (W.ownsRow w8.heap.size 3 1 (.slice A4 L.length c4) L.length (nums .i64 (zr L (gone I J i) n))) ∧ Below w8.heap.size w8 W)
                  case atStart => exact ⟨0, by omega, by omega, rfl, hown9, hB9⟩
                  case round =>
                    obtain ⟨n4, hn4, rfl, rfl, HO4, hb4⟩ := hrel
                    have hbx4 := HBX.out.keep hb4
                    by_cases hlt4 : n4 < L.length
                    · obtain ⟨g4, cap4, e4, -, hg4⟩ := own_pos' HO4.out (by omega)
                      simp only [Value.slice.injEq] at e4
                      obtain ⟨rfl, -, rfl⟩ := e4
                      obtain ⟨-, hz4⟩ := own_at HO4.out (n4 : Int) (by omega) (by omega)
                      obtain ⟨hc4, -⟩ := own_at HO4.out (n4 : Int) (by omega) (by omega)
                      rw [Int.toNat_natCast] at hz4 hc4
                      have hst4 := (own_store HO4.out (n4 : Int) 0).1
                      rw [Int.toNat_natCast] at hst4
                      have hset4 := Lib.hid (fun v : Value => below_set (v := v) (j := n4) hb4 hg4)
                      obtain ⟨-, ⟨ci, cj⟩, -, -⟩ := hbx4
                      by_cases e1 : (i : Int) = I
                      · have e1b : ((i : Int) == I) = true := beq_iff_eq.2 e1
                        have HG := zr_yes L (gone I J i) n4 hlt4 (by unfold gone; rw [e1b]; rfl)
                        rw [HG] at hst4
                        have HST4 := Lib.hid hst4
                        clear e1 HG hst4
                        go_wp2
                        go_roundg (L.length - (n4 + 1))
                        case measure => omega
                        case rel => exact ⟨n4 + 1, by omega, rfl, by go_num, HST4.out, hset4.out _⟩
                      · have e1b : ((i : Int) == I) = false := beq_eq_false_iff_ne.2 e1
                        by_cases e2 : (n4 : Int) = J
                        · have e2b : ((n4 : Int) == J) = true := beq_iff_eq.2 e2
                          have HG := zr_yes L (gone I J i) n4 hlt4 (by unfold gone; rw [e2b, Bool.or_true])
                          rw [HG] at hst4
                          have HST4 := Lib.hid hst4
                          clear e1 e2 HG hst4
                          go_wp2
                          go_roundg (L.length - (n4 + 1))
                          case measure => omega
                          case rel => exact ⟨n4 + 1, by omega, rfl, by go_num, HST4.out, hset4.out _⟩
                        · have e2b : ((n4 : Int) == J) = false := beq_eq_false_iff_ne.2 e2
                          have HG := Lib.hid (zr_no L (gone I J i) n4 (by unfold gone; rw [e1b, e2b]; rfl))
                          clear e1 e2 hst4
                          go_wp2
                          go_roundg (L.length - (n4 + 1))
                          case measure => omega
                          case rel => exact ⟨n4 + 1, by omega, rfl, by go_num, by show World.ownsRow _ _ _ _ _ _ _; rw [← HG.out]; exact HO4.out, hb4⟩
                    · have hnn : n4 = L.length := by omega
                      subst hnn
                      have hO5 := own_weaken HO4.out hbl.size
                      have hlz := zr_length L (gone I J i) L.length
                      have hR5 := Kd.R_below HRo.out hb4
                      obtain ⟨A5, d5, e5⟩ := Kd.R_slice hR5
                      have hM5 : (Kd.slice 3 (Kd.int .i64)).M wr w7.heap.size (fun k => some k ≠ u19.ownBlock) (zr L (gone I J i) L.length) [.slice A4 L.length c4] :=
                        ⟨_, rfl, Kd.R_of_own (by rw [hlz]; exact hO5) (fun k hk e => by
                          obtain ⟨inner, hin⟩ := Kd.R_own HRo.out
                          have h1 := own_base HO4.out k hk
                          have h2 := own_lt hin k e.symm
                          omega)⟩
                      go_wp2_with (at_builtin; (refine Kd.R_append (Kd.slice 3 (Kd.int .i64)) w7.heap.size rfl (.tmp 171) (.tmp 173) 72 69 (.slice none 0 0) 24 rfl Try.underlying72 infoR rfl (by decide) (by decide) _ (zeroed ls I J i) (zr L (gone I J i) L.length) [.slice A4 L.length c4] (fun _ => True) _ rfl rfl hM5 (fun k hk => ⟨trivial, hk⟩) (fun _ _ => trivial) hR5 (bt hbl hb4) (bt hbl hb4).size (by rw [zeroed_length]; omega) ?_); intro v6 w6' hR6 hB6 hg6 hat6)
                      go_roundg (ls.length - (i + 1))
                      case measure => omega
                      case rel => exact ⟨i + 1, by omega, rfl, by go_num, by show Kd.R _ _ _ _ _ _ _; rw [HZS.out]; exact hR6, hB6⟩
                · have hii : i = ls.length := by omega
                  subst hii
                  replace hbx := hbx.keep hbl
                  obtain ⟨⟨c0, c1⟩, -, hb, -⟩ := id hbx
                  have HRo' := HRo.out
                  obtain ⟨A3, d3, rfl, hd3, hC3⟩ := Kd.R_reads HRo'
                  obtain ⟨ot, hot⟩ : ∃ ot, ot = zeroed ls I J ls.length := ⟨_, rfl⟩
                  have HMONO := Lib.hid (fun (n : Nat) (h : comesB S F (n : Int) sp ls = true) => comes_mono S F (n : Int) sp I J (Int.natCast_nonneg n) ls h)
                  rw [← hot] at hC3 hd3 HMONO ⊢
                  clear hot HRo HRo'
                  have HC3 := Lib.hid hC3
                  clear hC3
                  obtain ⟨w8, rfl⟩ : ∃ w8 : World, w8 = wr := ⟨_, rfl⟩
                  go_wp2_with fail
                  refine (events_yes S F sp ls A c hL (by omega) _ (Kd.C_below HR.out hb) hc).mono ?_
                  rintro e w9 ⟨g1, cg1, rfl, ho1, hb9⟩
                  replace hbx := hbx.keep hb9
                  clear hb c0 c1
                  obtain ⟨⟨c0, c1⟩, -, hb, -⟩ := id hbx
                  rw [Int.toNat_natCast] at ho1 ⊢
                  go_wp2_with fail
                  refine (events_yes S F sp ot A3 d3 hL (by omega) _ (Kd.C_below HC3.out hb9) hd3).mono ?_
                  rintro e w10 ⟨g2, cg2, rfl, ho2, hb10⟩
                  rw [Int.toNat_natCast] at ho2 ⊢
                  have ho1 := own_move ho1 (w1 := w10) (fun k hk => hb10.block k (own_lt ho1 k hk))
                  have hbf := bt hb hb10
                  clear hb c0 c1 hbx hb9 hb10 hbl
                  have HO1 := Lib.hid ho1
                  have HO2 := Lib.hid ho2
                  clear ho1 ho2
                  go_wp2
                  go_loopg [27] sp (fun gk x W => ∃ n : Nat, n ≤ sp ∧ gk = sp - n ∧ x = .int .i64 n ∧ W = w10)
                  case atStart => exact ⟨0, by omega, by omega, rfl, rfl⟩
                  case round =>
                    obtain ⟨n, hn, rfl, rfl, rfl⟩ := hrel
                    by_cases hlt : n < sp
                    · obtain ⟨z1, -⟩ := own_at_of (d := false) HO1.out (n : Int) (by omega) (by omega)
                      obtain ⟨z2, -⟩ := own_at_of (d := false) HO2.out (n : Int) (by omega) (by omega)
                      rw [Int.toNat_natCast, evL_at _ _ _ _ _ _ hlt] at z1 z2
                      cases hx : comesB S F (n : Int) sp ls with
                      | true =>
                        have hy := HMONO.out n hx
                        rw [hx] at z1
                        rw [hy] at z2
                        clear hx hy
                        go_wp2
                        go_roundg (sp - (n + 1))
                        case measure => omega
                        case rel => exact ⟨n + 1, by omega, rfl, by go_num, rfl⟩
                      | false =>
                        rw [hx] at z1
                        clear hx
                        go_wp2
                        go_roundg (sp - (n + 1))
                        case measure => omega
                        case rel => exact ⟨n + 1, by omega, rfl, by go_num, rfl⟩
                    · go_wp2
                      go_ret
                      exact ⟨rfl, hbf⟩
        · go_wp2
          all_goals (go_ret; exact ⟨rfl, hb⟩)
      · go_wp2
        all_goals (go_ret; exact ⟨rfl, hb⟩)
    · go_wp2_with fail
      refine (check_no hL _).mono ?_
      rintro e w3 ⟨rfl, hb3⟩
      replace hbx := hbx.keep hb3
      have hb' := hbx.below
      clear hb hb3 c0 c1
      go_wp2
      go_ret
      exact ⟨rfl, hb'⟩

theorem once_of (S F k stop I J : Int) (ls : List (List Int)) (A : Option Addr) (n c : Nat) (w : World) (hr : Kd.C (Kd.slice 3 (Kd.int .i64)) w A n ls) (hc : n ≤ c) :
    Calls Try.prog 9 #[.agg #[.int .i64 S, .int .i64 F], .int .i64 k, .int .i64 stop, .slice A n c, .agg #[.int .i64 I, .int .i64 J]] w fun e w' => e = .returned (.bool true) ∧ Below w.heap.size w w' := by
  obtain rfl := hr.1
  exact once_any S F k stop I J ls A c w hr hc
end Go.Proofs.Ytidfahjebjaneaa.Slt
