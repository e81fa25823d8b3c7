/- The document's coder in memory, its walks; both coders side by side (arith). -/
import Derived.Test.YtikjolinendfgaaAr6
import Derived.Test.YtikjolinendfgaaPadC
import Derived.Test.YtikjolinendfgaaAr12
import Derived.Test.YtikjolinendfgaaArM
set_option linter.unusedVariables false
set_option linter.unusedSimpArgs false
namespace Go.Proofs.Ytikjolinendfgaa.Ari
open Go.RowKit Go.Proofs.YtikjolinendfgaaW.PrintWords Go.Proofs.YtikjolinendfgaaW.PrintLast Go.Proofs.YtikjolinendfgaaW.PrintMore Go.Proofs.Ytikjolinendfgaa.Bit

/-- bits as numbers -/
def bitsZ (l : List Bool) : List Int := l.map fun b => (b.toNat : Int)
theorem bitsZ_len (l : List Bool) : (bitsZ l).length = l.length := by simp [bitsZ]
theorem bitsZ_snoc (l : List Bool) (b : Bool) : bitsZ (l ++ [b]) = bitsZ l ++ [(b.toNat : Int)] := by simp [bitsZ]
/-- the document's coder at block m, v its bits -/
structure RCo (W : World) (m : Nat) (lo wd ow : Nat) (en : Bool) (l : List Bool) (v : Value) : Prop where
  at_ : W.heap[m]? = some (.cells #[.int .i64 lo, .int .i64 wd, .int .i64 ow, .bool en, v] 40 (0, 0))
  own : W.ownsRow (m + 1) 3 1 v (bitsZ l).length (nums .i64 (bitsZ l))
section
variable {W : World} {m lo wd ow : Nat} {en : Bool} {l : List Bool} {v : Value}
theorem RCo.c0 (h : RCo W m lo wd ow en l v) : W.cell? ⟨m, 0, none⟩ = some (.int .i64 lo) := (blk_cell h.at_ 0).trans rfl
theorem RCo.c1 (h : RCo W m lo wd ow en l v) : W.cell? ⟨m, 1, none⟩ = some (.int .i64 wd) := (blk_cell h.at_ 1).trans rfl
theorem RCo.c2 (h : RCo W m lo wd ow en l v) : W.cell? ⟨m, 2, none⟩ = some (.int .i64 ow) := (blk_cell h.at_ 2).trans rfl
theorem RCo.c3 (h : RCo W m lo wd ow en l v) : W.cell? ⟨m, 3, none⟩ = some (.bool en) := (blk_cell h.at_ 3).trans rfl
theorem RCo.c4 (h : RCo W m lo wd ow en l v) : W.cell? ⟨m, 4, none⟩ = some v := (blk_cell h.at_ 4).trans rfl
theorem RCo.fr (h : RCo W m lo wd ow en l v) (o : Nat) : W.frozen? ⟨m, o, none⟩ = false := blk_frozen h.at_ o
theorem RCo.ne (h : RCo W m lo wd ow en l v) : some m ≠ v.ownBlock := own_ne h.own h.at_ (by decide)
theorem RCo.drewN (h : RCo W m lo wd ow en l v) (k : Nat) : RCo (W.drewN k) m lo wd ow en l v := ⟨h.at_, own_move h.own fun _ _ => rfl⟩
theorem RCo.drew (h : RCo W m lo wd ow en l v) : RCo W.drew m lo wd ow en l v := ⟨h.at_, own_move h.own fun _ _ => rfl⟩
theorem RCo.s0 (h : RCo W m lo wd ow en l v) (x : Nat) : RCo (W.setCell ⟨m, 0, none⟩ (.int .i64 (x : Int))) m x wd ow en l v := ⟨(blk_set h.at_ _ _).trans rfl, own_setCell h.own h.ne _⟩
theorem RCo.s1 (h : RCo W m lo wd ow en l v) (x : Nat) : RCo (W.setCell ⟨m, 1, none⟩ (.int .i64 (x : Int))) m lo x ow en l v := ⟨(blk_set h.at_ _ _).trans rfl, own_setCell h.own h.ne _⟩
theorem RCo.s2 (h : RCo W m lo wd ow en l v) (x : Nat) : RCo (W.setCell ⟨m, 2, none⟩ (.int .i64 (x : Int))) m lo wd x en l v := ⟨(blk_set h.at_ _ _).trans rfl, own_setCell h.own h.ne _⟩
theorem RCo.s3 (h : RCo W m lo wd ow en l v) (x : Bool) : RCo (W.setCell ⟨m, 3, none⟩ (.bool x)) m lo wd ow x l v := ⟨(blk_set h.at_ _ _).trans rfl, own_setCell h.own h.ne _⟩
/-- one more bit -/
theorem RCo.snoc {w6 : World} {v6 : Value} {x : Int} {bit : Bool} (h : RCo W m lo wd ow en l v) (hx : x = (bit.toNat : Int)) (hown : w6.ownsRow (m + 1) 3 1 v6 (bitsZ l ++ [x]).length (nums .i64 (bitsZ l ++ [x]))) (hb : Below (m + 1) W w6) (hg : W.grownBy w6 v.ownBlock)
    (hat : v6.ownBlock = v.ownBlock ∨ ∃ b, v6.ownBlock = some b ∧ W.heap.size ≤ b) : RCo (w6.setCell ⟨m, 4, none⟩ v6) m lo wd ow en (l ++ [bit]) v6 ∧ Fr m v v6 W (w6.setCell ⟨m, 4, none⟩ v6) := by
  have k2 := blk_grown h.at_ hg h.ne
  refine ⟨⟨(blk_set k2 4 _).trans rfl, ?_⟩, ⟨(hb.mono (Nat.le_succ m)).setCell (p := ⟨m, 4, none⟩) (Nat.le_refl _) _, (KeepBut.of_grown hg m).set_ 4 _, hat⟩⟩
  rw [bitsZ_snoc, ← hx]
  exact own_setCell hown (own_ne hown k2 (by decide)) _
end
set_option maxRecDepth 100000 in
set_option maxHeartbeats 1000000 in
theorem rtell_any (m lo wd ow : Nat) (en : Bool) (l : List Bool) (v : Value) (x y : Int) (bit : Bool) (hx : x = (bit.toNat : Int)) (hy : y = 1 - x) (w : World) (h : RCo w m lo wd ow en l v) (hn : l.length + ow < 100000000) :
    Calls Try.prog 46 #[.pointer (some ⟨m, 0, none⟩), .int .i64 x] w fun e w' => e = .returned (.tuple #[]) ∧ ∃ v', RCo w' m lo wd 0 en (l ++ bit :: List.replicate ow (!bit)) v' ∧ Fr m v v' w w' := by
  have hyb : y = ((!bit).toNat : Int) := by rw [hy, hx]; cases bit <;> rfl
  have e1 : IntKind.i64.wrap (1 - x) = y := by rw [← hy]; exact IntWalk.i64_in _ (by cases bit <;> simp at hyb <;> omega)
  have HY := Lib.hid hyb
  have HX := Lib.hid hx
  have hn1 : (bitsZ l).length + ow < 100000000 := by rw [bitsZ_len]; exact hn
  have HN := Lib.hid hn
  clear hn
  have hown := h.own
  obtain ⟨A5, c5, rfl⟩ := own_slice hown
  have c4 := h.c4
  have f4 := h.fr 4
  have hms : m + 1 ≤ w.heap.size := blk_lt h.at_
  have H := Lib.hid h
  clear hy hyb hx h
  go_enter Try.func46, Try.ntmps46
  go_wp2_with (at_builtin; go_loud (refine print_append_num (w0 := w) (m + 1) rfl (.tmp 8) (.tmp 10) 29 3 .i64 8 rfl Try.underlying29 infoI (by decide) (.slice A5 (bitsZ l).length c5) (bitsZ l) x rfl rfl hown (Below.refl _ _) hms (by omega) ?_); intro v6 w6 hown6 hb6 hg6 hat6; have k2 := blk_grown H.out.at_ hg6 H.out.ne; have kc := blk_cell k2 4; have kf := blk_frozen k2 4; have HS := Lib.hid (H.out.snoc HX.out hown6 hb6 hg6 hat6); rw [show (bitsZ l ++ [x]).length = (bitsZ l).length + 1 from by simp] at hown6; obtain ⟨A6, c6, rfl⟩ := own_slice hown6; clear hown6 hb6 hg6 hat6 k2)
  generalize hw7 : w6.setCell ⟨m, 4, none⟩ (.slice A6 ((bitsZ l).length + 1) c6) = w7 at HS ⊢
  clear hw7 kf kc c4 f4 hown hms
  go_loopg [] ow (fun gk W => ∃ (i : Nat) (v2 : Value), i ≤ ow ∧ gk = ow - i ∧ Hid (RCo W m lo wd (ow - i : Nat) en (l ++ bit :: List.replicate i (!bit)) v2) ∧ Hid (Fr m (.slice A5 (bitsZ l).length c5) v2 w W))
  case atStart => exact ⟨0, _, by omega, rfl, HS.out.1, HS.out.2⟩
  case round =>
    obtain ⟨i, v2, hil, rfl, hC, hF⟩ := hrel
    clear HS
    have c2 := hC.out.c2
    by_cases hlt : i < ow
    · have hown2 := hC.out.own
      obtain ⟨A7, c7, rfl⟩ := own_slice hown2
      have c4 := hC.out.c4
      have f4 := hC.out.fr 4
      have hms2 : m + 1 ≤ wr.heap.size := blk_lt hC.out.at_
      have hbl : (bitsZ (l ++ bit :: List.replicate i (!bit))).length < 100000000 := by rw [bitsZ_len]; have := HN.out; simp; omega
      have HL2 : Hid (l ++ bit :: List.replicate (i + 1) (!bit) = (l ++ bit :: List.replicate i (!bit)) ++ [!bit]) := by show _ = _; simp [List.replicate_succ']
      have hpos : (0 : Int) < ((ow - i : Nat) : Int) := by omega
      generalize l ++ bit :: List.replicate i (!bit) = L at hC hF hown2 c4 hbl HL2
      go_wp2_with (at_builtin; go_loud (refine print_append_num (w0 := wr) (m + 1) rfl (.tmp 23) (.tmp 26) 29 3 .i64 8 rfl Try.underlying29 infoI (by decide) (.slice A7 (bitsZ L).length c7) (bitsZ L) y rfl rfl hown2 (Below.refl _ _) hms2 (by omega) ?_); intro v6 w8 hown6 hb6 hg6 hat6; have k2 := blk_grown hC.out.at_ hg6 hC.out.ne; have kc := blk_cell k2 4; have kf := blk_frozen k2 4; have HS := Lib.hid (hC.out.snoc HY.out hown6 hb6 hg6 hat6); rw [show (bitsZ L ++ [y]).length = (bitsZ L).length + 1 from by simp] at hown6; obtain ⟨A8, c8, rfl⟩ := own_slice hown6; have g2 := HS.out.1.c2; have gf := HS.out.1.fr 2; clear hown6 hb6 hg6 hat6 k2)
      go_roundg (ow - (i + 1))
      case measure => omega
      case rel =>
        refine ⟨i + 1, _, by omega, rfl, ?_, (hF.out.trans HS.out.2).set 2 _⟩
        rw [HL2.out, show ((ow - i : Nat) : Int) - 1 = ((ow - (i + 1) : Nat) : Int) from by omega]
        exact HS.out.1.s2 (ow - (i + 1))
    · obtain rfl : i = ow := by omega
      have hz : ((i - i : Nat) : Int) = 0 := by omega
      rw [hz] at c2
      go_wp2
      go_end0
      refine ⟨rfl, v2, ?_, hF.out⟩
      have := hC.out
      rwa [Nat.sub_self] at this
end Go.Proofs.Ytikjolinendfgaa.Ari
namespace Go.Proofs.Ytikjolinendfgaa.Ari
open Go.RowKit Go.Proofs.YtikjolinendfgaaW.PrintWords Go.Proofs.YtikjolinendfgaaW.PrintLast Go.Proofs.YtikjolinendfgaaW.PrintMore Go.Proofs.Ytikjolinendfgaa.Bit

theorem next0 (lo wd ow : Nat) (l : List Bool) (h : lo + wd ≤ 32768) : wstep ⟨lo, wd, ow, l⟩ = some ⟨2 * lo, 2 * wd, 0, l ++ false :: List.replicate ow (!false)⟩ := by
  unfold wstep
  rw [show offOf ⟨lo, wd, ow, l⟩ = some 0 from if_pos h]
  show some (dbl 0 (stepB 0 _)) = _
  unfold stepB
  rw [if_neg (by decide)]
  rfl
theorem next1 (lo wd ow : Nat) (l : List Bool) (h : ¬ lo + wd ≤ 32768) (h2 : 32768 ≤ lo) : wstep ⟨lo, wd, ow, l⟩ = some ⟨2 * (lo - 32768), 2 * wd, 0, l ++ true :: List.replicate ow (!true)⟩ := by
  unfold wstep
  rw [show offOf ⟨lo, wd, ow, l⟩ = some 32768 from (if_neg h).trans (if_pos h2)]
  show some (dbl 32768 (stepB 32768 _)) = _
  unfold stepB
  rw [if_neg (by decide)]
  rfl
theorem next2 (lo wd ow : Nat) (l : List Bool) (h : ¬ lo + wd ≤ 32768) (h2 : ¬ 32768 ≤ lo) (h3 : 16384 ≤ lo ∧ lo + wd ≤ 49152) : wstep ⟨lo, wd, ow, l⟩ = some ⟨2 * (lo - 16384), 2 * wd, ow + 1, l⟩ := by
  unfold wstep
  rw [show offOf ⟨lo, wd, ow, l⟩ = some 16384 from (if_neg h).trans ((if_neg h2).trans (if_pos h3))]
  show some (dbl 16384 (stepB 16384 _)) = _
  unfold stepB
  rw [if_pos rfl]
  rfl
theorem run_snoc {k : Nat} {s u u' : St} (h : runN k s = some u) (h2 : wstep u = some u') : runN (k + 1) s = some u' := by
  show (runN k s).bind wstep = _
  rw [h]
  exact h2
set_option maxRecDepth 100000 in
set_option maxHeartbeats 1000000 in
theorem rput_ended (m lo wd ow : Nat) (l : List Bool) (v : Value) (u z : Value) (w : World) (h : RCo w m lo wd ow true l v) :
    Calls Try.prog 19 #[.pointer (some ⟨m, 0, none⟩), u, z] w fun e w' => e = .returned (.int .i64 250) ∧ w' = w := by
  have c3 := h.c3
  clear h
  go_enter Try.func19, Try.ntmps19
  go_wp2
  go_ret
  exact ⟨rfl, rfl⟩
set_option maxRecDepth 100000 in
set_option maxHeartbeats 1000000 in
theorem rput_no (m lo wd ow : Nat) (l : List Bool) (v : Value) (A : Option Addr) (n c : Nat) (t : List Int) (x : Int) (w : World) (h : RCo w m lo wd ow false l v) (hr : ReadsInt w .i64 A n t) (hb : ∀ x ∈ t, -9223372036854775808 ≤ x ∧ x ≤ 9223372036854775807) (hx : ¬ okS t x) :
    Calls Try.prog 19 #[.pointer (some ⟨m, 0, none⟩), .slice A n c, .int .i64 x] w fun e w' => e = .returned (.int .i64 1) ∧ w' = w := by
  have c3 := h.c3
  have HT := Lib.hid (rtotal_any A n c t w hr hb)
  obtain rfl := hr.1
  clear h hr hb
  by_cases hg : Good t
  · have hin := total_in hg
    have hx2 : x < 0 ∨ (t.length : Int) ≤ x := by
      rcases Int.lt_or_le x 0 with h | h
      · exact .inl h
      · rcases Int.lt_or_le x t.length with h2 | h2
        · exact absurd ⟨hg, h, h2⟩ hx
        · exact .inr h2
    have htz : totalZ t ≠ 0 := by omega
    generalize totalZ t = T at HT htz
    have hT0 : (T == 0) = false := beq_eq_false_iff_ne.2 htz
    clear hin hx hg
    rcases hx2 with h | h
    · go_enter Try.func19, Try.ntmps19
      go_wp2_with (go_at_call 17; refine HT.out.mono ?_; rintro e w1 ⟨rfl, rfl⟩)
      go_ret
      exact ⟨rfl, rfl⟩
    · have h0 : 0 ≤ x := by omega
      go_enter Try.func19, Try.ntmps19
      go_wp2_with (go_at_call 17; refine HT.out.mono ?_; rintro e w1 ⟨rfl, rfl⟩)
      go_ret
      exact ⟨rfl, rfl⟩
  · rw [total_not hg] at HT
    clear hx hg
    go_enter Try.func19, Try.ntmps19
    go_wp2_with (go_at_call 17; refine HT.out.mono ?_; rintro e w1 ⟨rfl, rfl⟩)
    go_ret
    exact ⟨rfl, rfl⟩
set_option maxRecDepth 100000 in
set_option maxHeartbeats 4000000 in
theorem rput_ok (m : Nat) (s : St) (v : Value) (A : Option Addr) (n c : Nat) (t : List Int) (i : Nat) (w : World) (h : RCo w m s.lo s.wd s.ow false s.bits v) (hr : ReadsInt w .i64 A n t) (hb : ∀ x ∈ t, -9223372036854775808 ≤ x ∧ x ≤ 9223372036854775807) (hg : Good t) (hi : i < t.length)
    (hs : Rest s) (hn : s.bits.length + s.ow + 65536 < 100000000) :
    Calls Try.prog 19 #[.pointer (some ⟨m, 0, none⟩), .slice A n c, .int .i64 i] w fun e w' => e = .returned (.int .i64 0) ∧ ∃ k s' v', Wid k (cut t i s) s' ∧ RCo w' m s'.lo s'.wd s'.ow false s'.bits v' ∧ Fr m v v' w w' := by
  obtain rfl := hr.1
  obtain ⟨hz, hz2, hz3⟩ := total_in hg
  have HT0 := rtotal_any A t.length c t w hr hb
  rw [hz] at HT0
  have e1 := sum_take_le hg.2.2.1 i
  have e2 := sum_take_le hg.2.2.1 (i + 1)
  have hcut := cut_in hg hi hs
  obtain ⟨F, hF⟩ := Int.eq_ofNat_of_zero_le e1.1
  obtain ⟨T, hT⟩ := Int.eq_ofNat_of_zero_le e2.1
  obtain ⟨N, hN⟩ := Int.eq_ofNat_of_zero_le (show 0 ≤ t.sum by omega)
  have hFN : F ≤ N := by have := e1.2; omega
  have hTN : T ≤ N := by have := e2.2; omega
  rw [hN] at HT0 hz2 hz3
  have HT := Lib.hid HT0
  unfold cut at hcut
  rw [hF, hT, hN, Int.toNat_natCast, Int.toNat_natCast, Int.toNat_natCast] at hcut
  have HC : Hid (cut t i s = narrow s N F T) := by
    show _ = _
    unfold cut
    rw [hF, hT, hN, Int.toNat_natCast, Int.toNat_natCast, Int.toNat_natCast]
  obtain ⟨sl, sw, so, sb⟩ := s
  change RCo w m sl sw so false sb v at h
  have hsw := hs.2
  have hsw1 := hs.1
  change sb.length + so + 65536 < 100000000 at hn
  change sl + sw ≤ 65536 at hsw
  change 16384 < sw at hsw1
  obtain ⟨hc1, hc2, hc3, hc4⟩ := hcut
  change sw * F / N ≤ sw * T / N at hc3
  change sw * T / N ≤ sw at hc4
  have HFA := Lib.hid (fun k => rfloor_any A t.length c t i (i : Int) rfl (w.drewN k) (hr.drewN k) hg (by omega) F hF)
  have HFC := Lib.hid (fun (W : World) (hW : ReadsInt W .i64 A t.length t) => rfloor_any A t.length c t (i + 1) ((i : Int) + 1) (by omega) W hW hg (by omega) T hT)
  have HR := Lib.hid hr
  obtain ⟨P, hP⟩ : ∃ P, P = sw * F := ⟨_, rfl⟩
  obtain ⟨P2, hP2⟩ : ∃ P2, P2 = sw * T := ⟨_, rfl⟩
  have q1 : (sw : Int) * (F : Int) = (P : Int) := by rw [hP]; push_cast; rfl
  have q2 : (sw : Int) * (T : Int) = (P2 : Int) := by rw [hP2]; push_cast; rfl
  have q3 : P ≤ 65536 * 4096 := by rw [hP]; exact Nat.mul_le_mul (by omega) (by omega)
  have q4 : P2 ≤ 65536 * 4096 := by rw [hP2]; exact Nat.mul_le_mul (by omega) (by omega)
  obtain ⟨Qa, hQa⟩ : ∃ Qa, Qa = sw * F / N := ⟨_, rfl⟩
  obtain ⟨Qb, hQb⟩ : ∃ Qb, Qb = sw * T / N := ⟨_, rfl⟩
  have q5 : (P : Int) / (N : Int) = (Qa : Int) := by rw [hQa, hP]; exact (Int.natCast_ediv _ _).symm
  have q6 : (P2 : Int) / (N : Int) = (Qb : Int) := by rw [hQb, hP2]; exact (Int.natCast_ediv _ _).symm
  rw [← hQa, ← hQb] at hc3
  rw [← hQb] at hc4
  have HNR : Hid (narrow ⟨sl, sw, so, sb⟩ N F T = ⟨sl + Qa, Qb - Qa, so, sb⟩) := by
    show _ = _
    unfold narrow
    rw [hQa, hQb]
  have hw1 : 4 ≤ Qb - Qa := by
    have h4 := hc2
    rw [HNR.out] at h4
    exact h4
  have hN0 : ((N : Int) == 0) = false := beq_eq_false_iff_ne.2 (by omega)
  have q8 : IntKind.i64.wrap ((i : Int) + 1) = (i : Int) + 1 := IntWalk.i64_in _ (by have := hg.2.1; omega)
  have c0 := h.c0
  have c1 := h.c1
  have c3 := h.c3
  have htl := hg.2.1
  have H := Lib.hid h
  have hdi : decide (t.length ≤ i) = false := decide_eq_false (by omega)
  have hdi0 : decide ((i : Int) < 0) = false := decide_eq_false (by omega)
  clear h hr hb hs hc1 hc2 hP hP2 hQa hQb hF hT hN hz e1 e2 HT0 hg
  go_enter Try.func19, Try.ntmps19
  go_wp2_with (go_at_call 17; refine HT.out.mono ?_; rintro e w1 ⟨rfl, rfl⟩)
  go_quiet ((go_at_call 45; exact Calls.quiet_of_same (HFA.out _)))
  go_wp2
  obtain ⟨w4, hw4⟩ : ∃ w4, w4 = w1.drewN nq := ⟨_, rfl⟩
  rw [← hw4]
  have H4 : Hid (RCo w4 m sl sw so false sb v) := by rw [hw4]; exact H.out.drewN nq
  have HF4C : Hid (∀ k, (Calls Try.prog 45 #[.slice A t.length c, .int .i64 ((i : Int) + 1)] (w4.drewN k) fun e w' => e = .returned (.int .i64 (T : Int)) ∧ w' = (w4.drewN k))) := by rw [hw4]; exact fun k => HFC.out _ ((HR.out.drewN nq).drewN k)
  have HFR4 : Hid (Fr m v v w1 w4) := by rw [hw4]; exact (Fr.refl m v w1).drewN nq
  clear c0 c1 c3 hw4 HFC HFA
  have c0 := H4.out.c0
  have c1 := H4.out.c1
  go_quiet ((go_at_call 45; exact Calls.quiet_of_same (HF4C.out _)))
  have f0 := H4.out.fr 0
  have f1 := H4.out.fr 1
  go_wp2
  have HST : Hid (RCo (((w4.drewN nq).setCell ⟨m, 0, none⟩ (.int .i64 ((sl : Int) + Qa))).setCell ⟨m, 1, none⟩ (.int .i64 ((Qb : Int) - Qa))) m (sl + Qa) (Qb - Qa) so false sb v) := by
    have h5 := ((H4.out.drewN nq).s0 (sl + Qa)).s1 (Qb - Qa)
    rw [show ((sl + Qa : Nat) : Int) = (sl : Int) + Qa from by omega, show ((Qb - Qa : Nat) : Int) = (Qb : Int) - Qa from by omega] at h5
    exact h5
  have HFS : Hid (Fr m v v w1 (((w4.drewN nq).setCell ⟨m, 0, none⟩ (.int .i64 ((sl : Int) + Qa))).setCell ⟨m, 1, none⟩ (.int .i64 ((Qb : Int) - Qa)))) := ((HFR4.out.drewN nq).set 0 _).set 1 _
  obtain ⟨u0, hu0⟩ : ∃ u0, u0 = (⟨sl + Qa, Qb - Qa, so, sb⟩ : St) := ⟨_, rfl⟩
  have HU0 : Hid (cut t i ⟨sl, sw, so, sb⟩ = u0) := by show _ = _; rw [HC.out, HNR.out, hu0]
  obtain ⟨b0, hb0⟩ : ∃ b0, b0 = Qb - Qa := ⟨_, rfl⟩
  obtain ⟨a0, ha0⟩ : ∃ a0, a0 = sl + Qa := ⟨_, rfl⟩
  rw [← hb0, ← ha0] at HST hu0
  have hab : 1 ≤ b0 ∧ a0 + b0 ≤ 65536 := by omega
  have HR0 : Hid (runN 0 u0 = some ⟨a0, b0, so, sb⟩) := by show some u0 = _; rw [hu0]
  have HAB := Lib.hid hab
  have HN1 : Hid (sb.length + so + (65536 - b0) < 100000000) := by show _ < _; omega
  clear c0 c1 f0 f1 q1 q2 q3 q4 q5 q6 q8 hc3 hc4 hw1 hN0 hsw hsw1 hn hz2 hz3 hFN hTN htl H4 HF4C HFR4 hb0 ha0 hab hu0
  go_loopg [] (65536 - b0) (fun gk W => ∃ (k lo wd ow : Nat) (l : List Bool) (v2 : Value), gk = 65536 - wd ∧ l.length + ow + (65536 - wd) < 100000000 ∧ 1 ≤ wd ∧ lo + wd ≤ 65536 ∧ Hid (RCo W m lo wd ow false l v2) ∧ Hid (Fr m v v2 w1 W) ∧ Hid (runN k u0 = some ⟨lo, wd, ow, l⟩))
  case atStart => exact ⟨0, a0, b0, so, sb, v, rfl, HN1.out, HAB.out.1, HAB.out.2, HST, HFS, HR0⟩
  case round =>
    clear HST HFS HAB HN1
    obtain ⟨k, lo, wd, ow, l, v2, rfl, hnb, hwd1, hsum1, HRC, HF, HRN⟩ := hrel
    have k0 := HRC.out.c0
    have k1 := HRC.out.c1
    have f0 := HRC.out.fr 0
    have f1 := HRC.out.fr 1
    obtain ⟨sm, hsm⟩ : ∃ sm, sm = lo + wd := ⟨_, rfl⟩
    have hsum : (lo : Int) + (wd : Int) = (sm : Int) := by omega
    have HSM := Lib.hid hsm
    have HS1 := Lib.hid hsum1
    have hsmb : sm ≤ 65536 := by omega
    clear hsm hsum1
    by_cases a1 : (sm : Int) ≤ 32768
    · have HW : Hid (wd ≤ 32768 ∧ lo + wd ≤ 32768) := by have := HSM.out; show _ ∧ _; omega
      have HNX := Lib.hid (next0 lo wd ow l HW.out.2)
      have HTE := Lib.hid (fun j => rtell_any m lo wd ow false l v2 0 1 false rfl rfl (wr.drewN j) (HRC.out.drewN j) (by omega))
      go_wp2
      go_quiet (fail)
      go_wp2_with (go_at_call 46; refine (HTE.out _).mono ?_; rintro e w5 ⟨rfl, v5, h5, hf5⟩; have H5 := Lib.hid h5; have HF5 := Lib.hid hf5; have g0 := h5.c0; have g1 := h5.c1; have j0 := h5.fr 0; have j1 := h5.fr 1; clear h5 hf5)
      go_roundg (65536 - 2 * wd)
      case measure => have := HW.out; omega
      case rel =>
        refine ⟨k + 1, 2 * lo, 2 * wd, 0, _, v5, rfl, ?_, by omega, by have := HW.out; omega, ?_, ((HF.out.trans ((Fr.refl m v2 wr).drewN _ |>.trans HF5.out)).set 0 _).set 1 _, run_snoc HRN.out HNX.out⟩
        · have := HW.out
          simp
          omega
        · have h6 := (H5.out.s0 (2 * lo)).s1 (2 * wd)
          rw [show ((2 * lo : Nat) : Int) = (lo : Int) * 2 from by omega, show ((2 * wd : Nat) : Int) = (wd : Int) * 2 from by omega] at h6
          exact h6
    by_cases a2 : (32768 : Int) ≤ (lo : Int)
    · have HW : Hid (wd ≤ 32768 ∧ ¬ lo + wd ≤ 32768 ∧ 32768 ≤ lo) := by have := HSM.out; have := HS1.out; show _ ∧ _; omega
      have HNX := Lib.hid (next1 lo wd ow l HW.out.2.1 HW.out.2.2)
      have HTE := Lib.hid (fun j => rtell_any m lo wd ow false l v2 1 0 true rfl rfl (wr.drewN j) (HRC.out.drewN j) (by omega))
      go_wp2
      go_quiet (fail)
      go_wp2_with (go_at_call 46; refine (HTE.out _).mono ?_; rintro e w5 ⟨rfl, v5, h5, hf5⟩; have H5 := Lib.hid h5; have HF5 := Lib.hid hf5; have g0 := h5.c0; have g1 := h5.c1; have j0 := h5.fr 0; have j1 := h5.fr 1; clear h5 hf5)
      go_roundg (65536 - 2 * wd)
      case measure => have := HW.out; omega
      case rel =>
        refine ⟨k + 1, 2 * (lo - 32768), 2 * wd, 0, _, v5, rfl, ?_, by omega, by have := HW.out; have := HS1.out; omega, ?_, (((HF.out.trans ((Fr.refl m v2 wr).drewN _ |>.trans HF5.out)).set 0 _).set 0 _).set 1 _, run_snoc HRN.out HNX.out⟩
        · have := HW.out
          simp
          omega
        · have h6 := ((H5.out.s0 (lo - 32768)).s0 (2 * (lo - 32768))).s1 (2 * wd)
          rw [show ((2 * (lo - 32768) : Nat) : Int) = ((lo : Int) - 32768) * 2 from by omega, show ((2 * wd : Nat) : Int) = (wd : Int) * 2 from by omega, show (((lo - 32768) : Nat) : Int) = ((lo : Int) - 32768) from by omega] at h6
          exact h6
    by_cases a3 : (16384 : Int) ≤ (lo : Int)
    · by_cases a4 : (sm : Int) ≤ 49152
      · have HW : Hid (wd ≤ 32768 ∧ ¬ lo + wd ≤ 32768 ∧ ¬ 32768 ≤ lo ∧ 16384 ≤ lo ∧ lo + wd ≤ 49152) := by have := HSM.out; have := HS1.out; show _ ∧ _; omega
        have HNX := Lib.hid (next2 lo wd ow l HW.out.2.1 HW.out.2.2.1 HW.out.2.2.2)
        have HA3 := Lib.hid a3
        have hda1 : decide ((sm : Int) ≤ 32768) = false := decide_eq_false a1
        have hda2 : decide ((32768 : Int) ≤ (lo : Int)) = false := decide_eq_false a2
        have hd4 : decide ((sm : Int) ≤ 49152) = true := decide_eq_true a4
        have HD4 := Lib.hid hd4
        clear hd4 a4
        clear a1 a2 a3
        go_wp2
        go_quiet (fail)
        go_upto_region 15 with fail
        obtain ⟨wy, hwy⟩ : ∃ wy, wy = wr.drewN nq := ⟨_, rfl⟩
        rw [← hwy]
        have HY : Hid (RCo wy m lo wd ow false l v2) := by rw [hwy]; exact HRC.out.drewN nq
        have HFY : Hid (Fr m v v2 w1 wy) := by rw [hwy]; exact HF.out.drewN nq
        clear k0 k1 f0 f1 hwy
        have k0 := HY.out.c0
        have k1 := HY.out.c1
        have k2 := HY.out.c2
        have f0 := HY.out.fr 0
        have f1 := HY.out.fr 1
        have f2 := HY.out.fr 2
        have hd : decide ((16384 : Int) ≤ (lo : Int)) = true := decide_eq_true HA3.out
        have hd4 := HD4.out
        go_quiet (fail)
        go_wp2
        go_roundg (65536 - 2 * wd)
        case measure => have := HW.out; omega
        case rel =>
          refine ⟨k + 1, 2 * (lo - 16384), 2 * wd, ow + 1, l, v2, rfl, by have := HW.out; omega, by omega, by have := HW.out; have := HS1.out; omega, ?_, ((((HFY.out.drewN nq).set 2 _).set 0 _).set 0 _).set 1 _, run_snoc HRN.out HNX.out⟩
          have hlo := HW.out.2.2.2.1
          have h6 := ((((HY.out.drewN nq).s2 (ow + 1)).s0 (lo - 16384)).s0 (2 * (lo - 16384))).s1 (2 * wd)
          rw [show ((2 * (lo - 16384) : Nat) : Int) = ((lo : Int) - 16384) * 2 from by omega, show ((2 * wd : Nat) : Int) = (wd : Int) * 2 from by omega, show (((lo - 16384) : Nat) : Int) = ((lo : Int) - 16384) from by omega] at h6
          exact h6
      · have HO : Hid (offOf ⟨lo, wd, ow, l⟩ = none) := (if_neg (show ¬ lo + wd ≤ 32768 by have := HSM.out; omega)).trans ((if_neg (show ¬ 32768 ≤ lo by omega)).trans (if_neg (show ¬ (16384 ≤ lo ∧ lo + wd ≤ 49152) by have := HSM.out; omega)))
        have HA3 := Lib.hid a3
        have hda1 : decide ((sm : Int) ≤ 32768) = false := decide_eq_false a1
        have hda2 : decide ((32768 : Int) ≤ (lo : Int)) = false := decide_eq_false a2
        have hd4 : decide ((sm : Int) ≤ 49152) = false := decide_eq_false a4
        have HD4 := Lib.hid hd4
        clear hd4 a4
        clear a1 a2 a3
        go_wp2
        go_quiet (fail)
        go_upto_region 15 with fail
        obtain ⟨wy, hwy⟩ : ∃ wy, wy = wr.drewN nq := ⟨_, rfl⟩
        rw [← hwy]
        have HY : Hid (RCo wy m lo wd ow false l v2) := by rw [hwy]; exact HRC.out.drewN nq
        have HFY : Hid (Fr m v v2 w1 wy) := by rw [hwy]; exact HF.out.drewN nq
        clear k0 k1 f0 f1 hwy
        have k0 := HY.out.c0
        have k1 := HY.out.c1
        have hd : decide ((16384 : Int) ≤ (lo : Int)) = true := decide_eq_true HA3.out
        have hd4 := HD4.out
        go_quiet (fail)
        go_wp2
        go_ret
        exact ⟨rfl, k, ⟨lo, wd, ow, l⟩, v2, ⟨by rw [HU0.out]; exact HRN.out, HO.out⟩, HY.out.drewN _, HFY.out.drewN _⟩
    · have HO : Hid (offOf ⟨lo, wd, ow, l⟩ = none) := (if_neg (show ¬ lo + wd ≤ 32768 by have := HSM.out; omega)).trans ((if_neg (show ¬ 32768 ≤ lo by omega)).trans (if_neg (show ¬ (16384 ≤ lo ∧ lo + wd ≤ 49152) by omega)))
      have HA3 := Lib.hid a3
      have hda1 : decide ((sm : Int) ≤ 32768) = false := decide_eq_false a1
      have hda2 : decide ((32768 : Int) ≤ (lo : Int)) = false := decide_eq_false a2
      clear a1 a2 a3
      go_wp2
      go_quiet (fail)
      go_upto_region 15 with fail
      obtain ⟨wy, hwy⟩ : ∃ wy, wy = wr.drewN nq := ⟨_, rfl⟩
      rw [← hwy]
      have HY : Hid (RCo wy m lo wd ow false l v2) := by rw [hwy]; exact HRC.out.drewN nq
      have HFY : Hid (Fr m v v2 w1 wy) := by rw [hwy]; exact HF.out.drewN nq
      clear k0 k1 f0 f1 hwy
      have k0 := HY.out.c0
      have k1 := HY.out.c1
      have hd : decide ((16384 : Int) ≤ (lo : Int)) = false := decide_eq_false (by have := HA3.out; omega)
      go_quiet (fail)
      go_wp2
      go_ret
      exact ⟨rfl, k, ⟨lo, wd, ow, l⟩, v2, ⟨by rw [HU0.out]; exact HRN.out, HO.out⟩, HY.out.drewN _, HFY.out.drewN _⟩
end Go.Proofs.Ytikjolinendfgaa.Ari
namespace Go.Proofs.Ytikjolinendfgaa.Ari
open Go.RowKit Go.Proofs.YtikjolinendfgaaW.PrintWords Go.Proofs.YtikjolinendfgaaW.PrintLast Go.Proofs.YtikjolinendfgaaW.PrintMore Go.Proofs.Ytikjolinendfgaa.Bit

theorem rnewCoder_any (w : World) : Calls Try.prog 15 #[] w fun e w' => e = .returned (.pointer (some ⟨w.heap.size, 0, none⟩)) ∧ RCo w' w.heap.size 0 65536 0 false [] (.slice none 0 0) ∧ Below w.heap.size w w' := by
  go_enter Try.func15, Try.ntmps15
  go_wp2
  go_ret
  exact ⟨rfl, ⟨heap_alloc_new w _, World.ownsRow_nil _ _ _ _⟩, ba (br w) _⟩
set_option maxRecDepth 100000 in
set_option maxHeartbeats 1000000 in
theorem rend_ended (m lo wd ow : Nat) (l : List Bool) (v : Value) (w : World) (h : RCo w m lo wd ow true l v) :
    Calls Try.prog 21 #[.pointer (some ⟨m, 0, none⟩)] w fun e w' => e = .returned (.int .i64 250) ∧ w' = w := by
  have c3 := h.c3
  clear h
  go_enter Try.func21, Try.ntmps21
  go_wp2
  go_ret
  exact ⟨rfl, rfl⟩
set_option maxRecDepth 100000 in
set_option maxHeartbeats 1000000 in
theorem rend_any (m lo wd ow : Nat) (l : List Bool) (v : Value) (w : World) (h : RCo w m lo wd ow false l v) (hn : l.length + ow + 65536 < 100000000) :
    Calls Try.prog 21 #[.pointer (some ⟨m, 0, none⟩)] w fun e w' => e = .returned (.int .i64 0) ∧ ∃ v', RCo w' m lo wd 0 true (fin ⟨lo, wd, ow, l⟩).bits v' ∧ Fr m v v' w w' := by
  have c3 := h.c3
  have c2 := h.c2
  have c0 := h.c0
  have f2 := h.fr 2
  have f3 := h.fr 3
  have h2 := (h.s3 true).s2 (ow + 1)
  rw [show ((ow + 1 : Nat) : Int) = (ow : Int) + 1 from by omega] at h2
  have H2 := Lib.hid h2
  have HF2 := Lib.hid (((Fr.refl m v w).set 3 (.bool true)).set 2 (.int .i64 ((ow : Int) + 1)))
  have hl2 : l.length + (ow + 1) < 100000000 := by omega
  clear h2 h
  by_cases hlo : lo < 16384
  · have e0 : (fin ⟨lo, wd, ow, l⟩).bits = l ++ false :: List.replicate (ow + 1) (!false) := by
      unfold fin tellB
      rw [show decide (16384 ≤ (St.mk lo wd ow l).lo) = false from decide_eq_false (by show ¬ 16384 ≤ lo; omega)]
    have hloI : (lo : Int) < 16384 := by omega
    have HE0 := Lib.hid e0
    clear e0
    go_enter Try.func21, Try.ntmps21
    go_wp2_with (go_at_call 46; refine (rtell_any m lo wd (ow + 1) true l v 0 1 false rfl rfl _ H2.out hl2).mono ?_; rintro e1 w1 ⟨rfl, v1, h1, hf1⟩; have HE := Lib.hid (And.intro h1 hf1); clear h1 hf1)
    go_ret
    exact ⟨rfl, v1, by rw [HE0.out]; exact HE.out.1, HF2.out.trans HE.out.2⟩
  · have e0 : (fin ⟨lo, wd, ow, l⟩).bits = l ++ true :: List.replicate (ow + 1) (!true) := by
      unfold fin tellB
      rw [show decide (16384 ≤ (St.mk lo wd ow l).lo) = true from decide_eq_true (by show 16384 ≤ lo; omega)]
    have hloI : ¬ (lo : Int) < 16384 := by omega
    have HE0 := Lib.hid e0
    clear e0
    go_enter Try.func21, Try.ntmps21
    go_wp2_with (go_at_call 46; refine (rtell_any m lo wd (ow + 1) true l v 1 0 true rfl rfl _ H2.out hl2).mono ?_; rintro e1 w1 ⟨rfl, v1, h1, hf1⟩; have HE := Lib.hid (And.intro h1 hf1); clear h1 hf1)
    go_ret
    exact ⟨rfl, v1, by rw [HE0.out]; exact HE.out.1, HF2.out.trans HE.out.2⟩
/-- bits, and zeros behind them -/
theorem bits_pad (l : List Bool) : bitsL (ofL l) (8 * rowN l.length) = bitsZ l ++ List.replicate (8 * rowN l.length - l.length) 0 := by
  have hr : l.length ≤ 8 * rowN l.length := by unfold rowN; omega
  apply List.ext_getElem
  · rw [bitsL_length, List.length_append, bitsZ_len, List.length_replicate]; omega
  · intro i h1 h2
    simp only [bitsL, List.getElem_map, List.getElem_range]
    rcases Nat.lt_or_ge i l.length with hi | hi
    · rw [List.getElem_append_left (by rw [bitsZ_len]; exact hi)]
      simp [bitsZ, ofL, List.getD_eq_getElem?_getD, List.getElem?_eq_getElem hi]
    · rw [List.getElem_append_right (by rw [bitsZ_len]; exact hi)]
      simp [ofL, List.getD_eq_getElem?_getD, List.getElem?_eq_none hi]
theorem own_emptyI (W : World) : (W.alloc (.cells #[] 3)).ownsRow W.heap.size 3 1 (.slice (some ⟨W.heap.size, 0, none⟩) 0 0) ([] : List Int).length (nums .i64 []) :=
  own_lit W W.heap.size 3 .i64 [] (Nat.le_refl _) (by decide)
theorem conv_own {W : World} {base n : Nat} {v : Value} {l : List Int} (h : W.ownsRow base 5 1 v n (nums .u8 l)) : (convert 41 9 v).run Try.prog W = .ok (.string (strOfNums l)) W :=
  own_string Try.underlying41 Try.underlying5 Try.underlying9 h
set_option maxRecDepth 100000 in
set_option maxHeartbeats 1000000 in
theorem rcbytes_any (m lo wd ow : Nat) (en : Bool) (l : List Bool) (v : Value) (w : World) (h : RCo w m lo wd ow en l v) (hn : l.length ≤ 100000) :
    Calls Try.prog 24 #[.pointer (some ⟨m, 0, none⟩)] w fun e w' => e = .returned (.string (strOfNums (bytesS l))) ∧ Below w.heap.size w w' := by
  have c4 := h.c4
  obtain ⟨A, c, rfl, hr⟩ := own_reads h.own
  have hN : (bitsZ l).length ≤ 100000 := by rw [bitsZ_len]; exact hn
  have HBL := Lib.hid (bitsZ_len l)
  have HP := Lib.hid (bits_pad l)
  have hrw : l.length ≤ 8 * rowN l.length ∧ 8 * rowN l.length < l.length + 8 := by unfold rowN; omega
  rw [← bitsZ_len l] at hrw HP
  rw [bitsZ_len l] at HP
  have HRR : Hid (rowN (bitsZ l).length = rowN l.length) := by show _ = _; rw [bitsZ_len]
  clear h hn
  obtain ⟨M, hM⟩ : ∃ M, M = rowN (bitsZ l).length := ⟨_, rfl⟩
  rw [← hM] at hrw HRR
  rw [← HRR.out] at HP
  have HM := Lib.hid hM
  clear hM
  generalize hL : bitsZ l = L at c4 hr hN HBL HP hrw HRR HM
  have x4 := fun o => pw_cell_below (ba (br w) o) c4
  go_enter Try.func24, Try.ntmps24
  go_wp2_with (at_builtin; go_loud (refine print_append_row w.heap.size rfl (.tmp 5) (.tmp 9) 29 3 .i64 8 rfl Try.underlying29 infoI (by decide) _ [] L _ _ _ rfl rfl (own_emptyI w) (hr.below (ba (br w) _)) (ba (br w) _) (ba (br w) _).size (by simp; omega) ?_); intro v1 w1 hown1 hB1 hg1 hat1)
  rw [List.nil_append] at hown1
  have hr1 := own_slice hown1
  obtain ⟨A1, c1, rfl⟩ := hr1
  clear x4 hr c4 hg1 hat1
  go_loopg [3] (8 * M - L.length) (fun gk x W => ∃ (q : Nat) (v2 : Value), L.length ≤ q ∧ q ≤ 8 * M ∧ gk = 8 * M - q ∧ x = v2 ∧ W.ownsRow w.heap.size 3 1 v2 q (nums .i64 (L ++ List.replicate (q - L.length) 0)) ∧ Below w.heap.size w W)
  case atStart => exact ⟨L.length, _, by omega, by omega, by omega, rfl, by simpa using hown1, hB1⟩
  case round =>
    obtain ⟨q, v2, hq0, hq, rfl, rfl, hown, hb⟩ := hrel
    obtain ⟨A2, c2, rfl⟩ := own_slice hown
    have hq1 : q ≤ 1000000 ∧ 8 * M < q + 8 := by omega
    by_cases hlt : q < 8 * M
    · have h8 : ((q : Int) % 8 == 0) = false := beq_eq_false_iff_ne.2 (by omega)
      have h8b : ((q : Int) % 8 != 0) = true := bne_iff_ne.2 (by omega)
      obtain ⟨K, hK⟩ : ∃ K, K = L ++ List.replicate (q - L.length) 0 := ⟨_, rfl⟩
      have hKl : K.length = q := by rw [hK, List.length_append, List.length_replicate]; omega
      have HKS : Hid (L ++ List.replicate (q + 1 - L.length) 0 = K ++ [0]) := by
        show _ = _
        rw [hK, show q + 1 - L.length = (q - L.length) + 1 from by omega, List.replicate_succ', List.append_assoc]
      rw [← hK] at hown
      have HKL := Lib.hid hKl
      have hown' : wr.ownsRow w.heap.size 3 1 (.slice A2 q c2) K.length (nums .i64 K) := by rw [hKl]; exact hown
      have HO := Lib.hid hown'
      have hKb : (K.length + 1) * 8 ≤ 140737488355328 := by omega
      have HKB := Lib.hid hKb
      clear hK hKl hown hown' hKb
      go_wp2_with (at_builtin; go_loud (refine print_append_num (w0 := w) w.heap.size rfl (.tmp 15) (.tmp 16) 29 3 .i64 8 rfl Try.underlying29 infoI (by decide) (.slice A2 q c2) K 0 rfl rfl HO.out hb hb.size HKB.out ?_); intro v6 w6 hown6 hb6 hg6 hat6; have HO6 := Lib.hid hown6; clear hown6 hg6 hat6)
      go_roundg (8 * M - (q + 1))
      case measure => omega
      case rel =>
        refine ⟨q + 1, _, by omega, by omega, rfl, rfl, ?_, hb6⟩
        have h6 := HO6.out
        rw [List.length_append, HKL.out] at h6
        rw [HKS.out]
        exact h6
    · obtain rfl : q = 8 * M := by omega
      have hq8 : (8 * (M : Int)) % 8 = 0 := by omega
      have HOB : Hid (wr.ownsRow w.heap.size 3 1 (.slice A2 (8 * M) c2) (8 * M) (nums .i64 (bitsL (ofL l) (8 * M)))) := by
        show World.ownsRow _ _ _ _ _ _ _
        rw [HP.out, ← HBL.out]
        exact hown
      clear hown
      have hb2 := ba hb (.cells #[.slice A2 (8 * M) c2, .int .i64 0, .int .i64 0] 59)
      have HB2 := Lib.hid hb2
      go_wp2_with fail
      refine (rbytes_any w.heap.size wr.heap.size M 0 0 (ofL l) (.slice A2 (8 * M) c2) _ ⟨heap_alloc_new wr _, pw_own_below HOB.out (ba (br wr) _), hb.size⟩ (by omega)).mono ?_
      rintro e w5 ⟨v5, rfl, hown5, hb5⟩
      have cv := conv_own hown5
      have HB5 := Lib.hid (bt HB2.out hb5)
      clear hown5 hb5
      go_wp2
      go_ret
      refine ⟨?_, HB5.out⟩
      rw [show bytesS l = bytesL (ofL l) M from by unfold bytesS; rw [← HRR.out]]
      rfl
end Go.Proofs.Ytikjolinendfgaa.Ari
namespace Go.Proofs.Ytikjolinendfgaa.Ari
open Go.RowKit Go.Proofs.YtikjolinendfgaaW.PrintWords Go.Proofs.YtikjolinendfgaaW.PrintLast Go.Proofs.YtikjolinendfgaaW.PrintMore Go.Proofs.Ytikjolinendfgaa.Bit

theorem runN_sum : ∀ {k : Nat} {s t : St}, runN k s = some t → t.bits.length + t.ow = s.bits.length + s.ow + k
  | 0, s, t, h => by simp only [runN, Option.some.injEq] at h; subst h; rfl
  | k + 1, s, t, h => by
    change (runN k s).bind wstep = some t at h
    cases hr : runN k s with
    | none => rw [hr] at h; cases h
    | some u =>
      rw [hr] at h
      change wstep u = some t at h
      have h1 := runN_sum hr
      unfold wstep at h
      cases ho : offOf u with
      | none => rw [ho] at h; cases h
      | some off =>
        rw [ho] at h
        injection h with h
        have h2 := stepB_sum off u
        rw [← h]
        show (stepB off u).bits.length + (stepB off u).ow = _
        omega
/-- what a Put answers -/
def putE (en : Bool) (t : List Int) (x : Int) : Int := if en = true then 250 else if Good t ∧ 0 ≤ x ∧ x < t.length then 0 else 1
/-- what a Put makes of a state -/
def Nxt (en : Bool) (t : List Int) (x : Int) (s s' : St) : Prop := (en = true ∨ ¬ okS t x) ∧ s' = s ∨ en = false ∧ okS t x ∧ ∃ k, Wid k (cut t x.toNat s) s'
/-- both coders at blocks g, m; v, vm their rows -/
structure Bo (w0 : World) (g m : Nat) (s : St) (en : Bool) (v vm : Value) (W : World) : Prop where
  base : Below w0.heap.size w0 W
  hg : w0.heap.size ≤ g
  gm : g < m
  c : CS W g s en v
  r : RCo W m s.lo s.wd s.ow en s.bits vm
  a1 : v.ownBlock ≠ some m
  a3 : ∀ b, v.ownBlock = some b → vm.ownBlock ≠ some b
  rest : en = false → Rest s
/-- the program's coder is a call ahead -/
structure Ha (w0 : World) (g m : Nat) (s : St) (en : Bool) (s' : St) (en' : Bool) (v vm : Value) (W : World) : Prop where
  base : Below w0.heap.size w0 W
  hg : w0.heap.size ≤ g
  gm : g < m
  c : CS W g s' en' v
  r : RCo W m s.lo s.wd s.ow en s.bits vm
  a1 : v.ownBlock ≠ some m
  a3 : ∀ b, v.ownBlock = some b → vm.ownBlock ≠ some b
section
variable {w0 : World} {g m : Nat} {s s' : St} {en en' : Bool} {v v' vm vm' : Value} {W W' : World}
theorem Bo.drewN (h : Bo w0 g m s en v vm W) (k : Nat) : Bo w0 g m s en v vm (W.drewN k) := ⟨pw_below_drewN h.base k, h.hg, h.gm, CoAt.drewN h.c k, h.r.drewN k, h.a1, h.a3, h.rest⟩
theorem Ha.drewN (h : Ha w0 g m s en s' en' v vm W) (k : Nat) : Ha w0 g m s en s' en' v vm (W.drewN k) := ⟨pw_below_drewN h.base k, h.hg, h.gm, CoAt.drewN h.c k, h.r.drewN k, h.a1, h.a3⟩
theorem Bo.ha (h : Bo w0 g m s en v vm W) : Ha w0 g m s en s en v vm W := ⟨h.base, h.hg, h.gm, h.c, h.r, h.a1, h.a3⟩
theorem Ha.bo (h : Ha w0 g m s en s en v vm W) (hr : en = false → Rest s) : Bo w0 g m s en v vm W := ⟨h.base, h.hg, h.gm, h.c, h.r, h.a1, h.a3, hr⟩
theorem Bo.kept (h : Bo w0 g m s en v vm W) (hb : Below W.heap.size W W') : Bo w0 g m s en v vm W' :=
  ⟨bt h.base hb, h.hg, h.gm, ⟨(hb.block _ (blk_lt h.c.at_)).trans h.c.at_, pw_own_below h.c.own hb, h.c.free⟩, ⟨(hb.block _ (blk_lt h.r.at_)).trans h.r.at_, pw_own_below h.r.own hb⟩, h.a1, h.a3, h.rest⟩
/-- the program's coder called -/
theorem Bo.one (h : Bo w0 g m s en v vm W) (hc : CS W' g s' en' v') (hf : Fr g v v' W W') : Ha w0 g m s en s' en' v' vm W' := by
  have hm : m < W.heap.size := blk_lt h.r.at_
  have hgm := h.gm
  refine ⟨h.base.trans (hf.below.mono h.hg), h.hg, h.gm, hc, ⟨(hf.keep.2 m hm (by omega) (fun e => h.a1 e.symm)).trans h.r.at_, own_move h.r.own fun j hj => hf.keep.2 j (own_lt h.r.own j hj) (by have := own_base h.r.own j hj; omega) (fun e => h.a3 j e.symm hj)⟩, ?_, ?_⟩
  · rcases hf.at_ with e | ⟨b, e, hb⟩
    · rw [e]; exact h.a1
    · rw [e]; intro e2; injection e2 with e2; omega
  · intro b hb
    rcases hf.at_ with e | ⟨b', e, hb'⟩
    · rw [e] at hb; exact h.a3 b hb
    · rw [e] at hb
      injection hb with hb
      subst hb
      intro e2
      have := own_lt h.r.own _ e2
      omega
/-- the document's coder called too -/
theorem Ha.two (h : Ha w0 g m s en s' en' v vm W) (hc : RCo W' m s'.lo s'.wd s'.ow en' s'.bits vm') (hf : Fr m vm vm' W W') (hr : en' = false → Rest s') : Bo w0 g m s' en' v vm' W' := by
  have hg : g < W.heap.size := blk_lt h.c.at_
  have hgm := h.gm
  have hne : ∀ b, vm.ownBlock = some b → m + 1 ≤ b := fun b hb => own_base h.r.own b hb
  refine ⟨h.base.trans (hf.below.mono (by have := h.hg; omega)), h.hg, h.gm, ⟨(hf.keep.2 g hg (by omega) (fun e => by have := hne g e.symm; omega)).trans h.c.at_, own_move h.c.own fun j hj => hf.keep.2 j (own_lt h.c.own j hj) (fun e => h.a1 (by rw [hj, e])) (fun e => h.a3 j hj e.symm), h.c.free⟩, hc, h.a1, ?_, hr⟩
  intro b hb
  rcases hf.at_ with e | ⟨b', e, hb'⟩
  · rw [e]; exact h.a3 b hb
  · rw [e]
    intro e2
    injection e2 with e2
    subst e2
    have := own_lt h.c.own _ hb
    omega
end
/-- a table in memory, apart from the coders -/
structure Tab (W : World) (g : Nat) (v : Value) (A : Option Addr) (c : Nat) (t : List Int) : Prop where
  rd : ReadsInt W .i64 A t.length t
  cap : t.length ≤ c
  in_ : ∀ x ∈ t, -9223372036854775808 ≤ x ∧ x ≤ 9223372036854775807
  far : ∀ ad, A = some ad → ad.block ≠ g ∧ some ad.block ≠ v.ownBlock ∧ ad.block < W.heap.size
theorem reads_keep {W W' : World} {g : Nat} {row : Option Nat} {A : Option Addr} {n : Nat} {t : List Int} (h : ReadsInt W .i64 A n t) (k : KeepBut W W' g row) (hf : ∀ ad, A = some ad → ad.block ≠ g ∧ some ad.block ≠ row) : ReadsInt W' .i64 A n t := by
  refine ⟨h.1, h.2.1, fun h0 => ?_⟩
  obtain ⟨ad, e, hc⟩ := h.2.2 h0
  refine ⟨ad, e, fun j hj => ?_⟩
  have h7 := hc j hj
  rw [← h7]
  exact World.cell?_of_block (k.2 _ (M.cell_lt h7) (by rw [M.add_block]; exact (hf ad e).1) (by rw [M.add_block]; exact (hf ad e).2))
section
variable {w0 : World} {g m : Nat} {s s' : St} {en en' : Bool} {v v' vm vm' : Value} {W W' : World}
theorem Bo.putC {A : Option Addr} {c : Nat} {t : List Int} {x : Int} (h : Bo w0 g m s en v vm W) (ht : Tab W g v A c t) (hn : s.bits.length + s.ow + 65536 < 100000000) :
    Calls Try.prog 18 #[.pointer (some ⟨g, 0, none⟩), .slice A t.length c, .int .i64 x] W fun e w' => e = .returned (.int .i64 (putE en t x)) ∧ ∃ s' v', Nxt en t x s s' ∧ Ha w0 g m s en s' en v' vm w' ∧ ReadsInt w' .i64 A t.length t := by
  cases en with
  | true => exact (put_ended g s v _ _ W h.c).mono fun e w' ⟨h1, h2⟩ => ⟨h1, s, v, .inl ⟨.inl rfl, rfl⟩, by rw [h2]; exact h.ha, by rw [h2]; exact ht.rd⟩
  | false =>
    by_cases hx : okS t x
    · obtain ⟨hg, hx0, hx1⟩ := id hx
      obtain ⟨i, rfl⟩ := Int.eq_ofNat_of_zero_le hx0
      have hi : i < t.length := by omega
      refine (put_ok g s v A t.length c t i W h.c ht.rd ht.cap ht.in_ hg hi (h.rest rfl) hn (fun ad e => (ht.far ad e).1)).mono fun e w' ⟨h1, k, s', v', h2, h3, h4⟩ => ?_
      exact ⟨by rw [h1]; unfold putE; rw [if_neg (by decide), if_pos ⟨hg, hx0, hx1⟩], s', v', .inr ⟨rfl, hx, k, h2⟩, h.one h3 h4, reads_keep ht.rd h4.keep (fun ad e => ⟨(ht.far ad e).1, (ht.far ad e).2.1⟩)⟩
    · exact (put_no g s v A t.length c t x W h.c ht.rd ht.in_ hx).mono fun e w' ⟨h1, h2⟩ => ⟨by rw [h1]; unfold putE; rw [if_neg (by decide), if_neg (show ¬ (Good t ∧ 0 ≤ x ∧ x < t.length) from hx)], s, v, .inl ⟨.inr hx, rfl⟩, by rw [h2]; exact h.ha, by rw [h2]; exact ht.rd⟩
theorem Ha.putM {A : Option Addr} {c : Nat} {t : List Int} {x : Int} (h : Ha w0 g m s en s' en v vm W) (hN : Nxt en t x s s') (hr : ReadsInt W .i64 A t.length t) (hb : ∀ x ∈ t, -9223372036854775808 ≤ x ∧ x ≤ 9223372036854775807) (hs : en = false → Rest s) (hn : s.bits.length + s.ow + 65536 < 100000000) :
    Calls Try.prog 19 #[.pointer (some ⟨m, 0, none⟩), .slice A t.length c, .int .i64 x] W fun e w' => e = .returned (.int .i64 (putE en t x)) ∧ s'.bits.length + s'.ow ≤ s.bits.length + s.ow + 14 ∧ ∃ vm', Bo w0 g m s' en v vm' w' := by
  rcases hN with ⟨h0, rfl⟩ | ⟨rfl, hx, k, hW⟩
  · cases en with
    | true => exact (rput_ended m s'.lo s'.wd s'.ow s'.bits vm _ _ W h.r).mono fun e w' ⟨h1, h2⟩ => ⟨h1, by omega, vm, by rw [h2]; exact h.bo hs⟩
    | false =>
      have hx : ¬ okS t x := by rcases h0 with h0 | h0; cases h0; exact h0
      exact (rput_no m s'.lo s'.wd s'.ow s'.bits vm A t.length c t x W h.r hr hb hx).mono fun e w' ⟨h1, h2⟩ => ⟨by rw [h1]; unfold putE; rw [if_neg (by decide), if_neg (show ¬ (Good t ∧ 0 ≤ x ∧ x < t.length) from hx)], by omega, vm, by rw [h2]; exact h.bo hs⟩
  · obtain ⟨hg, hx0, hx1⟩ := id hx
    obtain ⟨i, rfl⟩ := Int.eq_ofNat_of_zero_le hx0
    have hi : i < t.length := by omega
    rw [Int.toNat_natCast] at hW
    have hcut := cut_in hg hi (hs rfl)
    have hk := Wid.few hW hcut.1 hcut.2.1
    have hsum := runN_sum hW.1
    refine (rput_ok m s vm A t.length c t i W h.r hr hb hg hi (hs rfl) hn).mono fun e w' ⟨h1, k', s1, v1, h2, h3, h4⟩ => ?_
    obtain ⟨-, rfl⟩ := hW.det h2
    refine ⟨by rw [h1]; unfold putE; rw [if_neg (by decide), if_pos ⟨hg, hx0, hx1⟩], ?_, v1, h.two h3 h4 (fun _ => Wid.rest hW hcut.1)⟩
    change s'.bits.length + s'.ow = s.bits.length + s.ow + k at hsum
    omega
/-- what an End answers -/
def endE (en : Bool) : Int := if en = true then 250 else 0
def finS (en : Bool) (s : St) : St := if en = true then s else fin s
theorem fin_ow (s : St) : (fin s).ow = 0 := by unfold fin tellB; rfl
theorem fin_len (s : St) : (fin s).bits.length = s.bits.length + s.ow + 2 := by unfold fin tellB; simp; omega
theorem Bo.endC (h : Bo w0 g m s en v vm W) (hn : s.bits.length + s.ow + 65536 < 100000000) :
    Calls Try.prog 20 #[.pointer (some ⟨g, 0, none⟩)] W fun e w' => e = .returned (.int .i64 (endE en)) ∧ ∃ v', Ha w0 g m s en (finS en s) true v' vm w' := by
  cases en with
  | true => exact (end_ended g s v W h.c).mono fun e w' ⟨h1, h2⟩ => ⟨h1, v, by rw [h2]; exact h.ha⟩
  | false => exact (end_any g s v W h.c hn).mono fun e w' ⟨h1, v', h2, h3⟩ => ⟨h1, v', h.one h2 h3⟩
theorem Ha.endM (h : Ha w0 g m s en (finS en s) true v vm W) (hn : s.bits.length + s.ow + 65536 < 100000000) :
    Calls Try.prog 21 #[.pointer (some ⟨m, 0, none⟩)] W fun e w' => e = .returned (.int .i64 (endE en)) ∧ ∃ vm', Bo w0 g m (finS en s) true v vm' w' := by
  cases en with
  | true => exact (rend_ended m _ _ _ _ vm W h.r).mono fun e w' ⟨h1, h2⟩ => ⟨h1, vm, by rw [h2]; exact h.bo (fun h => by cases h)⟩
  | false => exact (rend_any m _ _ _ _ vm W h.r hn).mono fun e w' ⟨h1, v', h2, h3⟩ => ⟨h1, v', h.two h2 h3 (fun h => by cases h)⟩
theorem finS_sum (en : Bool) (s : St) : (finS en s).bits.length + (finS en s).ow ≤ s.bits.length + s.ow + 2 := by
  unfold finS
  split
  · omega
  · rw [fin_len, fin_ow]; omega
end
end Go.Proofs.Ytikjolinendfgaa.Ari
