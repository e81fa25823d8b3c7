/- The walks of the package arith: Put, End, Len, Bits of a coder. -/
import Derived.Test.YtikjolinendfgaaAr5
set_option linter.unusedVariables false
set_option linter.unusedSimpArgs false
namespace Go.Proofs.Ytikjolinendfgaa.Ari
open Go.RowKit Go.Proofs.YtikjolinendfgaaW.PrintWords Go.Proofs.YtikjolinendfgaaW.PrintLast Go.Proofs.YtikjolinendfgaaW.PrintMore Go.Proofs.Ytikjolinendfgaa.Bit

theorem own_row8 {W : World} {base n : Nat} {v : Value} {l : List Int} (h : W.ownsRow base 5 1 v n (nums .u8 l)) : ∃ (A : Option Addr) (c : Nat), v = .slice A l.length c ∧ ReadsInt W .u8 A l.length l := by
  have hl : l.length = n := by have := h.1; rw [nums_length] at this; omega
  subst hl
  obtain ⟨A, c, rfl, hr⟩ := own_reads h
  exact ⟨A, c, rfl, hr⟩
theorem runG_runN (k : Nat) (s : St) : runG St.lo St.wd (fun off s => dbl off (stepB off s)) k s = runN k s := by
  induction k with
  | zero => rfl
  | succ k ih => show Option.bind _ _ = Option.bind _ _; rw [ih]; rfl
/-- a coder in memory, as it stands -/
def CS (W : World) (g : Nat) (s : St) (en : Bool) (v : Value) : Prop := CL W g s.lo ((s.lo : Int) + s.wd - 1) s.ow en s.bits v
theorem stepB_sum (off : Nat) (s : St) : (stepB off s).bits.length + (stepB off s).ow = s.bits.length + s.ow + 1 := by
  unfold stepB tellB
  split
  · show s.bits.length + (s.ow + 1) = _; omega
  · show (s.bits ++ _ :: List.replicate s.ow _).length + 0 = _; simp; omega
theorem widen_coder (g : Nat) (s : St) (en : Bool) (v : Value) (w : World) (h : CS w g s en v) (hi : InW s) (hn : s.bits.length + s.ow + 65536 < 100000000) :
    Calls Try.prog 43 #[.pointer (some ⟨g, 0, none⟩), .func (.func 44) #[.pointer (some ⟨g, 0, none⟩)] #[]] w fun e w' => e = .returned (.tuple #[]) ∧ ∃ k t v', Wid k s t ∧ CS w' g t en v' ∧ Fr g v v' w w' := by
  refine (widen_gen (α := St) g _ St.lo St.wd (fun off s => dbl off (stepB off s)) (fun t W => InW t ∧ t.bits.length + t.ow + (65536 - t.wd) < 100000000 ∧ ∃ v', CS W g t en v' ∧ Fr g v v' w W)
    (fun off a => by show 2 * ((stepB off a).lo - off) = _; rw [(stepB_range off a).1]) (fun off a => by show 2 * (stepB off a).wd = _; rw [(stepB_range off a).2])
    (fun a W ⟨_, _, v', h1, _⟩ => CoAt.span h1 a.lo a.wd rfl rfl) (fun a W ⟨h1, _⟩ => h1) (fun a W off x ⟨h1, h2, v', h3, h4⟩ ho hx => ?_) s w ⟨hi, by omega, v, h, Fr.refl _ _ _⟩).mono ?_
  · have ho' : off = 0 ∨ off = 32768 ∨ off = 16384 := by
      rcases off_cases (s := a) ho with h | h | h
      · exact .inl h.1
      · exact .inr (.inl h.1)
      · exact .inr (.inr h.1)
    have hw := wstep_in (s := a) (t := dbl off (stepB off a)) (by unfold wstep; rw [show offOf a = some off from ho]; rfl) h1
    refine (step_any g _ _ a en v' x off hx ho' W h3 (by omega)).mono ?_
    rintro e W' ⟨rfl, v2, k1, k2⟩
    refine ⟨rfl, CoAt.span k1 a.lo a.wd rfl rfl, hw.1, ?_, v2, ?_, (((h4.trans k2).set 0 _).set 1 _).drewN 1⟩
    · have e1 := stepB_sum off a
      have e2 := hw.2.1
      have e3 := hw.2.2
      have e4 : (dbl off (stepB off a)).bits.length + (dbl off (stepB off a)).ow = (stepB off a).bits.length + (stepB off a).ow := rfl
      have := h1.1
      omega
    · have k3 := ((CoAt.s0 k1 ((2 * (a.lo - off) : Nat) : Int)).s1 (((2 * (a.lo - off) : Nat) : Int) + ((2 * a.wd : Nat) : Int) - 1)).drew
      unfold CS
      rw [show (dbl off (stepB off a)).lo = 2 * (a.lo - off) from by show 2 * ((stepB off a).lo - off) = _; rw [(stepB_range off a).1], show (dbl off (stepB off a)).wd = 2 * a.wd from by show 2 * (stepB off a).wd = _; rw [(stepB_range off a).2]]
      exact k3
  · rintro e w' ⟨rfl, k, t, ⟨h1, h2, v', h3, h4⟩, h5, h6⟩
    exact ⟨rfl, k, t, v', ⟨by rw [← runG_runN]; exact h5, h6⟩, h3, h4⟩
/-- the range of symbol s -/
def cut (t : List Int) (k : Nat) (s : St) : St := narrow s t.sum.toNat (t.take k).sum.toNat (t.take (k + 1)).sum.toNat
theorem cut_in {t : List Int} (hg : Good t) {k : Nat} (hk : k < t.length) {s : St} (hs : Rest s) : InW (cut t k s) ∧ 4 ≤ (cut t k s).wd ∧ s.wd * (t.take k).sum.toNat / t.sum.toNat ≤ s.wd * (t.take (k + 1)).sum.toNat / t.sum.toNat ∧ s.wd * (t.take (k + 1)).sum.toNat / t.sum.toNat ≤ s.wd := by
  have h1 := total_in hg
  have h2 := sum_take_le hg.2.2.1 k
  have h3 := sum_take_le hg.2.2.1 (k + 1)
  have h4 := sum_take_succ t k hk
  have h5 := (hg.pre k hk).1
  exact narrow_in hs (by omega) (by omega) (by omega)
def okS (t : List Int) (x : Int) : Prop := Good t ∧ 0 ≤ x ∧ x < t.length
set_option maxRecDepth 100000 in
set_option maxHeartbeats 1000000 in
theorem put_ended (g : Nat) (s : St) (v : Value) (u z : Value) (w : World) (h : CS w g s true v) :
    Calls Try.prog 18 #[.pointer (some ⟨g, 0, none⟩), u, z] w fun e w' => e = .returned (.int .i64 250) ∧ w' = w := by
  have c3 := CoAt.c3 h
  clear h
  go_enter Try.func18, Try.ntmps18
  go_wp2
  go_ret
  exact ⟨rfl, rfl⟩
set_option maxRecDepth 100000 in
set_option maxHeartbeats 1000000 in
theorem put_nil (u z : Value) (w : World) : Calls Try.prog 18 #[.pointer none, u, z] w fun e w' => e = .returned (.int .i64 3) ∧ w' = w := by
  go_enter Try.func18, Try.ntmps18
  go_wp2
  go_ret
  exact ⟨rfl, rfl⟩
set_option maxRecDepth 100000 in
set_option maxHeartbeats 1000000 in
theorem put_no (g : Nat) (s : St) (v : Value) (A : Option Addr) (n c : Nat) (t : List Int) (x : Int) (w : World) (h : CS w g s false v) (hr : ReadsInt w .i64 A n t) (hb : ∀ x ∈ t, -9223372036854775808 ≤ x ∧ x ≤ 9223372036854775807) (hx : ¬ okS t x) :
    Calls Try.prog 18 #[.pointer (some ⟨g, 0, none⟩), .slice A n c, .int .i64 x] w fun e w' => e = .returned (.int .i64 1) ∧ w' = w := by
  have c3 := CoAt.c3 h
  have HT := Lib.hid (total_any A n c t w hr hb)
  obtain rfl := hr.1
  clear h hr hb
  by_cases hg : Good t
  · have hin := total_in hg
    have hx2 : x < 0 ∨ (t.length : Int) ≤ x := by
      rcases Int.lt_or_le x 0 with h | h
      · exact .inl h
      · rcases Int.lt_or_le x t.length with h2 | h2
        · exact absurd ⟨hg, h, h2⟩ hx
        · exact .inr h2
    have htz : totalZ t ≠ 0 := by omega
    generalize totalZ t = T at HT htz
    have hT0 : (T == 0) = false := beq_eq_false_iff_ne.2 htz
    clear hin hx hg
    rcases hx2 with h | h
    · go_enter Try.func18, Try.ntmps18
      go_wp2_with (go_at_call 41; refine HT.out.mono ?_; rintro e w1 ⟨rfl, rfl⟩)
      go_ret
      exact ⟨rfl, rfl⟩
    · have h0 : 0 ≤ x := by omega
      go_enter Try.func18, Try.ntmps18
      go_wp2_with (go_at_call 41; refine HT.out.mono ?_; rintro e w1 ⟨rfl, rfl⟩)
      go_ret
      exact ⟨rfl, rfl⟩
  · rw [total_not hg] at HT
    clear hx hg
    go_enter Try.func18, Try.ntmps18
    go_wp2_with (go_at_call 41; refine HT.out.mono ?_; rintro e w1 ⟨rfl, rfl⟩)
    go_ret
    exact ⟨rfl, rfl⟩
set_option maxRecDepth 100000 in
set_option maxHeartbeats 1000000 in
theorem put_ok (g : Nat) (s : St) (v : Value) (A : Option Addr) (n c : Nat) (t : List Int) (i : Nat) (w : World) (h : CS w g s false v) (hr : ReadsInt w .i64 A n t) (hc : n ≤ c) (hb : ∀ x ∈ t, -9223372036854775808 ≤ x ∧ x ≤ 9223372036854775807) (hg : Good t) (hi : i < t.length)
    (hs : Rest s) (hn : s.bits.length + s.ow + 65536 < 100000000) (hfar : ∀ ad, A = some ad → ad.block ≠ g) :
    Calls Try.prog 18 #[.pointer (some ⟨g, 0, none⟩), .slice A n c, .int .i64 i] w fun e w' => e = .returned (.int .i64 0) ∧ ∃ k s' v', Wid k (cut t i s) s' ∧ CS w' g s' false v' ∧ Fr g v v' w w' := by
  have c3 := CoAt.c3 h
  obtain ⟨hz, hz2, hz3⟩ := total_in hg
  have HT0 := total_any A n c t w hr hb
  rw [hz] at HT0
  have e1 := sum_take_le hg.2.2.1 i
  have e2 := sum_take_le hg.2.2.1 (i + 1)
  have hcut := cut_in hg hi hs
  obtain ⟨F, hF⟩ := Int.eq_ofNat_of_zero_le e1.1
  obtain ⟨T, hT⟩ := Int.eq_ofNat_of_zero_le e2.1
  obtain ⟨N, hN⟩ := Int.eq_ofNat_of_zero_le (show 0 ≤ t.sum by omega)
  rw [hN] at HT0 hz2
  have HT := Lib.hid HT0
  have HNA := Lib.hid (narrow_any g s.lo s.wd A n c t i w (CoAt.span h s.lo s.wd rfl rfl) hs.2 (by have := hs.1; omega) hr hc hg hi F T N hF hT hN hfar)
  unfold cut at hcut
  rw [hF, hT, hN, Int.toNat_natCast, Int.toNat_natCast, Int.toNat_natCast] at hcut
  have HC : Hid (cut t i s = narrow s N F T) := by
    show _ = _
    unfold cut
    rw [hF, hT, hN, Int.toNat_natCast, Int.toNat_natCast, Int.toNat_natCast]
  have HCU := Lib.hid hcut
  have HCS : Hid (∀ k2, CS (((w.drewN k2).setCell ⟨g, 1, none⟩ (.int .i64 ((s.lo : Int) + ((s.wd * T / N : Nat) : Int) - 1))).setCell ⟨g, 0, none⟩ (.int .i64 ((s.lo + s.wd * F / N : Nat) : Int))) g (narrow s N F T) false v) := by
    intro k2
    have k3 := ((CoAt.drewN h k2).s1 ((s.lo : Int) + ((s.wd * T / N : Nat) : Int) - 1)).s0 ((s.lo + s.wd * F / N : Nat) : Int)
    unfold CS
    rw [show (((narrow s N F T).lo : Int) + (narrow s N F T).wd - 1) = (s.lo : Int) + ((s.wd * T / N : Nat) : Int) - 1 from by
      show ((s.lo + s.wd * F / N : Nat) : Int) + ((s.wd * T / N - s.wd * F / N : Nat) : Int) - 1 = _
      have := hcut.2.2.1
      omega]
    exact k3
  have HFR := Lib.hid (fun k2 : Nat => (((Fr.refl g v w).drewN k2).set 1 (.int .i64 ((s.lo : Int) + ((s.wd * T / N : Nat) : Int) - 1))).set 0 (.int .i64 ((s.lo + s.wd * F / N : Nat) : Int)))
  obtain rfl := hr.1
  have hN0 : ((N : Int) == 0) = false := beq_eq_false_iff_ne.2 (by omega)
  clear hcut hz e1 e2 hF hT hN HT0 h hr hb hz3
  go_enter Try.func18, Try.ntmps18
  go_wp2_with (first
    | (go_at_call 41; refine HT.out.mono ?_; rintro e w1 ⟨rfl, rfl⟩)
    | (go_at_call 42; refine HNA.out.mono ?_; rintro e w2 ⟨rfl, k2, rfl⟩)
    | (go_at_call 43; refine (widen_coder g (narrow s N F T) false v _ (HCS.out _) HCU.out.1 hn).mono ?_; rintro e w3 ⟨rfl, k, s', v', h1, h2, h3⟩; have HE := Lib.hid (And.intro h1 (And.intro h2 h3)); clear h1 h2 h3))
  go_ret
  exact ⟨rfl, k, s', v', by rw [HC.out]; exact HE.out.1, HE.out.2.1, (HFR.out k2).trans HE.out.2.2⟩
set_option maxRecDepth 100000 in
set_option maxHeartbeats 1000000 in
theorem end_ended (g : Nat) (s : St) (v : Value) (w : World) (h : CS w g s true v) :
    Calls Try.prog 20 #[.pointer (some ⟨g, 0, none⟩)] w fun e w' => e = .returned (.int .i64 250) ∧ w' = w := by
  have c3 := CoAt.c3 h
  clear h
  go_enter Try.func20, Try.ntmps20
  go_wp2
  go_ret
  exact ⟨rfl, rfl⟩
set_option maxRecDepth 100000 in
set_option maxHeartbeats 1000000 in
theorem end_nil (w : World) : Calls Try.prog 20 #[.pointer none] w fun e w' => e = .returned (.int .i64 3) ∧ w' = w := by
  go_enter Try.func20, Try.ntmps20
  go_wp2
  go_ret
  exact ⟨rfl, rfl⟩
/-- behind the end -/
def fin (s : St) : St := tellB (decide (16384 ≤ s.lo)) { s with ow := s.ow + 1 }
set_option maxRecDepth 100000 in
set_option maxHeartbeats 1000000 in
theorem end_any (g : Nat) (s : St) (v : Value) (w : World) (h : CS w g s false v) (hn : s.bits.length + s.ow + 65536 < 100000000) :
    Calls Try.prog 20 #[.pointer (some ⟨g, 0, none⟩)] w fun e w' => e = .returned (.int .i64 0) ∧ ∃ v', CS w' g (fin s) true v' ∧ Fr g v v' w w' := by
  obtain ⟨lo, wd, ow, l⟩ := s
  have c3 := CoAt.c3 h
  have c2 := CoAt.c2 h
  have f2 := CoAt.fr h 2
  have f3 := CoAt.fr h 3
  have c0 := CoAt.c0 h
  change l.length + ow + 65536 < 100000000 at hn
  have hl2 : l.length + (ow + 1) < 100000000 := by omega
  have h2 := (CoAt.s2 h (ow + 1)).s3 true
  rw [show ((ow + 1 : Nat) : Int) = (ow : Int) + 1 from by omega] at h2
  have H2 := Lib.hid h2
  have HF2 := Lib.hid (((Fr.refl g v w).set 2 (.int .i64 ((ow : Int) + 1))).set 3 (.bool true))
  clear h2
  clear h
  change w.cell? ⟨g, 0, none⟩ = some (.int .i64 (lo : Int)) at c0
  change w.cell? ⟨g, 2, none⟩ = some (.int .i64 (ow : Int)) at c2
  by_cases hlo : lo < 16384
  · have e0 : fin ⟨lo, wd, ow, l⟩ = ⟨lo, wd, 0, l ++ false :: List.replicate (ow + 1) (!false)⟩ := by
      unfold fin tellB
      rw [show decide (16384 ≤ (St.mk lo wd ow l).lo) = false from decide_eq_false (by show ¬ 16384 ≤ lo; omega)]
    have hloI : (lo : Int) < 16384 := by omega
    have HE0 := Lib.hid e0
    clear e0
    go_enter Try.func20, Try.ntmps20
    go_wp2_with (go_at_call 47; refine (tell_any g _ _ (ow + 1) true l v 0 1 false rfl rfl _ H2.out hl2).mono ?_; rintro e1 w1 ⟨rfl, v1, h1, hf1⟩; have HE := Lib.hid (And.intro h1 hf1); clear h1 hf1)
    go_ret
    exact ⟨rfl, v1, by rw [HE0.out]; exact HE.out.1, HF2.out.trans HE.out.2⟩
  · have e0 : fin ⟨lo, wd, ow, l⟩ = ⟨lo, wd, 0, l ++ true :: List.replicate (ow + 1) (!true)⟩ := by
      unfold fin tellB
      rw [show decide (16384 ≤ (St.mk lo wd ow l).lo) = true from decide_eq_true (by show 16384 ≤ lo; omega)]
    have hloI : ¬ (lo : Int) < 16384 := by omega
    have HE0 := Lib.hid e0
    clear e0
    go_enter Try.func20, Try.ntmps20
    go_wp2_with (go_at_call 47; refine (tell_any g _ _ (ow + 1) true l v 1 0 true rfl rfl _ H2.out hl2).mono ?_; rintro e1 w1 ⟨rfl, v1, h1, hf1⟩; have HE := Lib.hid (And.intro h1 hf1); clear h1 hf1)
    go_ret
    exact ⟨rfl, v1, by rw [HE0.out]; exact HE.out.1, HF2.out.trans HE.out.2⟩
set_option maxRecDepth 100000 in
set_option maxHeartbeats 1000000 in
theorem len_any (g : Nat) (s : St) (en : Bool) (v : Value) (w : World) (h : CS w g s en v) :
    Calls Try.prog 22 #[.pointer (some ⟨g, 0, none⟩)] w fun e w' => e = .returned (.int .i64 s.bits.length) ∧ w' = w := by
  have c4 := CoAt.c4 h
  clear h
  go_enter Try.func22, Try.ntmps22
  go_wp2
  go_ret
  exact ⟨rfl, rfl⟩
set_option maxRecDepth 100000 in
set_option maxHeartbeats 1000000 in
theorem len_nil (w : World) : Calls Try.prog 22 #[.pointer none] w fun e w' => e = .returned (.int .i64 0) ∧ w' = w := by
  go_enter Try.func22, Try.ntmps22
  go_wp2
  go_ret
  exact ⟨rfl, rfl⟩
set_option maxRecDepth 100000 in
set_option maxHeartbeats 1000000 in
theorem bits_nil (w : World) : Calls Try.prog 23 #[.pointer none] w fun e w' => e = .returned (.slice none 0 0) ∧ w' = w := by
  go_enter Try.func23, Try.ntmps23
  go_wp2
  go_ret
  exact ⟨rfl, rfl⟩
/-- the bytes of the bits -/
def bytesS (l : List Bool) : List Int := bytesL (ofL l) (rowN l.length)
theorem bytesL_len (O : Nat → Bool) (n : Nat) : (bytesL O n).length = n := by simp [bytesL]
set_option maxRecDepth 100000 in
set_option maxHeartbeats 1000000 in
theorem bits_any (g : Nat) (s : St) (en : Bool) (v : Value) (w : World) (h : CS w g s en v) (hn : s.bits.length < 100000000) :
    Calls Try.prog 23 #[.pointer (some ⟨g, 0, none⟩)] w fun e w' => ∃ v', e = .returned v' ∧ w'.ownsRow w.heap.size 5 1 v' (rowN s.bits.length) (nums .u8 (bytesS s.bits)) ∧ Below w.heap.size w w' := by
  have c5 := CoAt.c5 h
  have hrl : rowN s.bits.length ≤ 100000000 := by unfold rowN; omega
  obtain ⟨A, c, rfl, hr⟩ := own_row8 h.own
  have hle := bytesL_len (ofL s.bits) (rowN s.bits.length)
  rw [hle] at hr c5
  have HR := Lib.hid hr
  have HLE := Lib.hid hle
  clear h hr hle
  generalize hLL : bytesL (ofL s.bits) (rowN s.bits.length) = LL at HR HLE
  have HLL := Lib.hid hLL
  generalize hNN : rowN s.bits.length = NN at HR HLE c5 hrl
  have HNN := Lib.hid hNN
  clear hLL hNN
  go_enter Try.func23, Try.ntmps23
  go_wp2_with (at_builtin; go_loud (refine print_append_row w.heap.size rfl (.const (.slice none 0 0)) (.tmp 8) 41 5 .u8 1 rfl Try.underlying41 info8 (by decide) _ [] LL A NN c rfl rfl (World.ownsRow_nil _ _ _ _) HR.out (Below.refl _ _) (Nat.le_refl _) (by simp; omega) ?_); intro v1 w1 hown1 hB1 hg1 hat1)
  go_ret
  refine ⟨v1, rfl, ?_, hB1⟩
  rw [List.nil_append, HLE.out] at hown1
  unfold bytesS
  rw [HLL.out]
  exact hown1
end Go.Proofs.Ytikjolinendfgaa.Ari
