/- The walks of the package spec: beyond, line, by the closure that puts. -/
import Derived.Test.YtikjolinendfgaaSpA
set_option linter.unusedVariables false
set_option linter.unusedSimpArgs false
namespace Go.Proofs.Ytikjolinendfgaa.Spe
open Go.RowKit Go.Proofs.YtikjolinendfgaaW.PrintWords Go.Proofs.YtikjolinendfgaaW.PrintLast Go.Proofs.YtikjolinendfgaaW.PrintMore Go.Proofs.Ytikjolinendfgaa.Bit Go.Proofs.Ytikjolinendfgaa.Ari

theorem enc_len : ∀ {ds : List (List Int × Nat)} {s s' : St}, Q.Enc ds s s' → Ari.Rest s → Q.steps s' ≤ Q.steps s + 14 * ds.length
  | [], s, s', h, hr => by obtain rfl : s = s' := h; simp
  | (t, i) :: ds, s, s', h, hr => by
    obtain ⟨h1, h2, k, u, h3, h4⟩ := h
    have hc := cut_in h1 h2 hr
    have e1 := enc_len h4 (Wid.rest h3 hc.1)
    have e2 := Q.run_steps h3.1
    have e3 := Wid.few h3 hc.1 hc.2.1
    have e4 : Q.steps (cut t i s) = Q.steps s := rfl
    simp only [List.length_cons]
    omega
theorem enc_mono : ∀ {ds : List (List Int × Nat)} {s s' : St}, Q.Enc ds s s' → Ari.Rest s → Q.steps s ≤ Q.steps s'
  | [], s, s', h, hr => by obtain rfl : s = s' := h; exact Nat.le_refl _
  | (t, i) :: ds, s, s', h, hr => by
    obtain ⟨h1, h2, k, u, h3, h4⟩ := h
    have hc := cut_in h1 h2 hr
    have e1 := enc_mono h4 (Wid.rest h3 hc.1)
    have e2 := Q.run_steps h3.1
    have e4 : Q.steps (cut t i s) = Q.steps s := rfl
    omega
/-- symbols were put since the state s -/
def Adv (w : World) (g bx : Nat) (v0 : Value) (s : St) (ds : List (List Int × Nat)) (W : World) : Prop := ∃ s' v', Q.Enc ds s s' ∧ Ari.Rest s' ∧ offOf s' = none ∧ Cl w g bx v0 s' false v' W
section
variable {w : World} {g bx : Nat} {v0 : Value} {s : St} {ds : List (List Int × Nat)} {W W' : World}
theorem Adv.glt (h : Adv w g bx v0 s ds W) : g < W.heap.size := by obtain ⟨s', v', -, -, -, h4⟩ := h; exact h4.glt
theorem Adv.grow (h : Adv w g bx v0 s ds W) (hb : Below W.heap.size W W') : Adv w g bx v0 s ds W' := by obtain ⟨s', v', h1, h2, h3, h4⟩ := h; exact ⟨s', v', h1, h2, h3, h4.grow hb⟩
theorem Adv.put (h : Adv w g bx v0 s ds W) (hs : Ari.Rest s) (hn : Q.steps s + 14 * ds.length ≤ 1000000) (T : Nat) (t : List Int) (hr : ReadsInt W .i64 (some ⟨T, 0, none⟩) t.length t) (hT : T ≠ g)
    (hb : ∀ x ∈ t, -9223372036854775808 ≤ x ∧ x ≤ 9223372036854775807) (hg : Ari.Good t) (i : Nat) (x : Int) (hx : x = i) (hi : i < t.length) :
    Calls Try.prog 55 #[.slice (some ⟨T, 0, none⟩) t.length t.length, .int .i64 x, .pointer (some ⟨bx, 0, none⟩)] W fun e w' => e = .returned (.tuple #[.int .i64 x, .int .i64 0]) ∧ Adv w g bx v0 s (ds ++ [(t, i)]) w' := by
  obtain ⟨s', v', h1, h2, h3, h4⟩ := h
  have h5 := enc_len h1 hs
  refine (clo_put h4 h2 (by omega) T t hr hT hb hg i x hx hi).mono fun e w' ⟨k1, k, s2, v2, k2, k3⟩ => ⟨k1, s2, v2, Q.Enc.snoc hg hi h1 k2, Wid.rest k2 (cut_in hg hi h2).1, k2.2, k3⟩
theorem Adv.drew (h : Adv w g bx v0 s ds W) : Adv w g bx v0 s ds W.drew := h.grow ⟨rfl, rfl, rfl, Nat.le_refl _, fun _ _ => rfl⟩
/-- a bit is put -/
theorem Adv.bit (h : Adv w g bx v0 s ds W') (hs : Ari.Rest s) (hn : Q.steps s + 14 * ds.length ≤ 1000000) {e : Ending} (hm : MadeT evenS W' e W) (b : Nat) (x : Int) (hx : x = b) (hb : b < 2) :
    Calls Try.prog 55 #[.slice (some ⟨W'.heap.size, 0, none⟩) 2 2, .int .i64 x, .pointer (some ⟨bx, 0, none⟩)] W fun e w' => e = .returned (.tuple #[.int .i64 x, .int .i64 0]) ∧ Adv w g bx v0 s (ds ++ [(evenS, b)]) w' :=
  (h.grow hm.2.2.1).put hs hn W'.heap.size evenS hm.2.1 (by have := h.glt; omega) evenS_in evenS_good b x hx hb
end
theorem bits_and_one (z : Nat) (h : z < 32768) : bits .and .i64 (z : Int) 1 = ((z % 2 : Nat) : Int) := by
  have ha : z % 2 ^ IntKind.i64.bits = z := Nat.mod_eq_of_lt (Nat.lt_of_lt_of_le h (by decide))
  have hb : 1 % 2 ^ IntKind.i64.bits = 1 := by decide
  have e1 : (1 : Int) = ((1 : Nat) : Int) := rfl
  rw [e1]
  simp only [bits, BitVec.ofInt_natCast, BitVec.toNat_and, BitVec.toNat_ofNat, ha, hb, Nat.and_one_is_mod]
  exact IntWalk.i64_in _ (by omega)
theorem bits_or_one (o b : Nat) (h : o < 32768) (hb2 : b < 2) : bits .or .i64 (2 * (o : Int)) (b : Int) = ((2 * o + b : Nat) : Int) := by
  have e1 : 2 * (o : Int) = ((2 * o : Nat) : Int) := by push_cast; rfl
  have ha : (2 * o) % 2 ^ IntKind.i64.bits = 2 * o := Nat.mod_eq_of_lt (Nat.lt_of_lt_of_le (show 2 * o < 65536 by omega) (by decide))
  have hb : b % 2 ^ IntKind.i64.bits = b := Nat.mod_eq_of_lt (Nat.lt_of_lt_of_le (show b < 65536 by omega) (by decide))
  have e2 : 2 * o ||| b = 2 * o + b := (Nat.two_pow_add_eq_or_of_lt (i := 1) hb2 o).symm
  rw [e1]
  simp only [bits, BitVec.ofInt_natCast, BitVec.toNat_or, BitVec.toNat_ofNat, ha, hb, e2]
  exact IntWalk.i64_in _ (by omega)
/-- the symbols of a size's part above the tables -/
def tailS (v k j : Nat) : List (List Int × Nat) := (List.range j).map fun q => (evenS, v / 2 ^ (k - 1 - q) % 2)
theorem tailS_snoc (v k j : Nat) : tailS v k (j + 1) = tailS v k j ++ [(evenS, v / 2 ^ (k - 1 - j) % 2)] := by unfold tailS; rw [List.range_succ, List.map_append]; rfl
def symsB (v : Nat) : List (List Int × Nat) := List.replicate (Nat.log2 v) (evenS, 1) ++ [(evenS, 0)] ++ tailS v (Nat.log2 v) (Nat.log2 v)
theorem symsB_len (v : Nat) : (symsB v).length = 2 * Nat.log2 v + 1 := by simp [symsB, tailS]; omega
set_option maxRecDepth 100000 in
set_option maxHeartbeats 4000000 in
theorem beyond_put (w : World) (g bx : Nat) (v0 : Value) (s : St) (ds : List (List Int × Nat)) (W : World) (v : Nat) (h : Adv w g bx v0 s ds W) (hs : Ari.Rest s) (hn : Q.steps s + 14 * (ds.length + 40) ≤ 1000000) (hv1 : 1 ≤ v) (hv2 : v < 32768) :
    Calls Try.prog 68 #[.func (.func 55) #[] #[.pointer (some ⟨bx, 0, none⟩)], .int .i64 v] W fun e w' => e = .returned (.tuple #[.int .i64 v, .int .i64 0]) ∧ Adv w g bx v0 s (ds ++ symsB v) w' := by
  obtain ⟨k, hk⟩ : ∃ k, k = Nat.log2 v := ⟨_, rfl⟩
  have hk14 : k ≤ 14 := by
    rcases Nat.lt_or_ge 14 k with h | h
    · exfalso
      have h1 := Nat.log2_self_le (n := v) (by omega)
      rw [← hk] at h1
      have h2 : 2 ^ 15 ≤ 2 ^ k := Nat.pow_le_pow_right (by decide) h
      omega
    · exact h
  have hlen : lenB v = k + 1 := by unfold lenB; rw [if_neg (by omega), hk]
  have HB := Lib.hid (bits_any v (by omega))
  rw [hlen] at HB
  have e0 : IntKind.u64.wrap (v : Int) = (v : Int) := by rw [IntKind.wrap_u64]; omega
  have HH := Lib.hid h
  have HS := Lib.hid hs
  have HSY : Hid (symsB v = List.replicate k (evenS, 1) ++ [(evenS, 0)] ++ tailS v k k) := by show _ = _; unfold symsB; rw [hk]
  have HK := Lib.hid hk
  have HV := Lib.hid (And.intro hv1 hv2)
  clear h hs hlen hk
  go_enter Try.func68, Try.ntmps68
  go_wp2_with (go_at_call 71; refine (HB.out _).mono ?_; rintro e w1 ⟨rfl, rfl⟩)
  go_loopg [7] (k + 1) (fun gk x W => ∃ j : Nat, j ≤ k ∧ gk = k + 1 - j ∧ x = .int .i64 j ∧ Hid (Adv w g bx v0 s (ds ++ List.replicate j (evenS, 1)) W))
  case atStart => exact ⟨0, by omega, rfl, rfl, by show Adv _ _ _ _ _ _ _; simpa using HH.out⟩
  case round =>
    obtain ⟨j, hj, rfl, rfl, HA⟩ := hrel
    have hnj : Q.steps s + 14 * (ds ++ List.replicate j (evenS, 1)).length ≤ 1000000 := by rw [List.length_append, List.length_replicate]; omega
    have HNJ := Lib.hid hnj
    clear hnj
    by_cases hlt : j < k
    · have h15 : (((j : Int) + 1) == 15) = false := beq_eq_false_iff_ne.2 (by omega)
      go_wp2_with (first
        | (go_at_call 69; refine (even_any _).mono ?_; rintro e w2 hm; have HM := Lib.hid hm; obtain rfl := hm.1; clear hm)
        | (go_at_call 55; refine (HA.out.bit HS.out HNJ.out HM.out 1 1 rfl (by decide)).mono ?_; rintro e w3 ⟨rfl, h3⟩; have HA3 := Lib.hid h3; clear h3))
      go_roundg (k + 1 - (j + 1))
      case measure => omega
      case rel => exact ⟨j + 1, by omega, rfl, by go_num, by show Adv _ _ _ _ _ _ _; rw [List.replicate_succ', ← List.append_assoc]; exact HA3.out⟩
    · obtain rfl : j = k := by omega
      have HN2 : Hid (∀ q, q ≤ j → Q.steps s + 14 * ((ds ++ List.replicate j (evenS, 1) ++ [(evenS, 0)]) ++ tailS v j q).length ≤ 1000000) := fun q hq => by
        simp only [List.length_append, List.length_replicate, List.length_singleton, tailS, List.length_map, List.length_range]
        omega
      go_wp2_with (first
        | (go_at_call 69; refine (even_any _).mono ?_; rintro e w2 hm; have HM := Lib.hid hm; obtain rfl := hm.1; clear hm)
        | (go_at_call 55; refine (HA.out.bit HS.out HNJ.out HM.out 0 0 rfl (by decide)).mono ?_; rintro e w3 ⟨rfl, h3⟩; have HA3 := Lib.hid h3; clear h3))
      clear HA HM HNJ
      go_loopg [11, 12] (j + 1) (fun gk o x W => ∃ q : Nat, q ≤ j ∧ gk = j + 1 - q ∧ o = .int .i64 (v / 2 ^ (j - q) : Nat) ∧ x = .int .i64 ((j : Int) - 1 - q) ∧ Hid (Adv w g bx v0 s ((ds ++ List.replicate j (evenS, 1) ++ [(evenS, 0)]) ++ tailS v j q) W))
      case atStart =>
        refine ⟨0, by omega, rfl, ?_, by congr 1; omega, by show Adv _ _ _ _ _ _ _; simpa [tailS] using HA3.out⟩
        have h1 := Nat.log2_self_le (n := v) (by have := HV.out; omega)
        have h2 := Nat.lt_log2_self (n := v)
        rw [← HK.out] at h1 h2
        have h3 : 2 ^ (j + 1) = 2 * 2 ^ j := by rw [Nat.pow_succ, Nat.mul_comm]
        rw [h3] at h2
        have h4 : v / 2 ^ (j - 0) = 1 := by
          rw [Nat.sub_zero]
          exact Nat.div_eq_of_lt_le (by omega) (by omega)
        rw [h4]
        rfl
      case round =>
        clear HA3
        obtain ⟨q, hq, rfl, rfl, rfl, HAq⟩ := hrel
        by_cases hlq : q < j
        · obtain ⟨i, hi⟩ : ∃ i, i = j - 1 - q := ⟨_, rfl⟩
          have hiI : (j : Int) - 1 - q = (i : Int) := by omega
          rw [hiI]
          have hjq : j - q = i + 1 := by omega
          rw [hjq]
          obtain ⟨b, hb⟩ : ∃ b, b = v / 2 ^ i % 2 := ⟨_, rfl⟩
          obtain ⟨o, ho⟩ : ∃ o, o = v / 2 ^ (i + 1) := ⟨_, rfl⟩
          rw [← ho]
          have hb2 : b < 2 := by omega
          have hnext : v / 2 ^ i = 2 * o + b := by
            rw [ho, hb, Nat.pow_succ, ← Nat.div_div_eq_div_mul]
            omega
          have ho2 : o < 32768 := by
            rw [ho]
            exact Nat.lt_of_le_of_lt (Nat.div_le_self _ _) HV.out.2
          have HNEXT := Lib.hid hnext
          have HBI := Lib.hid hb
          have HIJ := Lib.hid (And.intro hi hjq)
          have hi0 : (0 : Int) ≤ (i : Int) := by omega
          obtain ⟨z, hz⟩ : ∃ z, z = v / 2 ^ i := ⟨_, rfl⟩
          have hzI : (v : Int) / 2 ^ i = (z : Int) := by rw [hz]; push_cast; rfl
          have hmin : min i 64 = i := by omega
          have hz3 : z < 32768 := by rw [hz]; exact Nat.lt_of_le_of_lt (Nat.div_le_self _ _) HV.out.2
          have ea := bits_and_one z hz3
          rw [show z % 2 = b from by rw [hz, hb]] at ea
          have eo := bits_or_one o b ho2 hb2
          have eo2 : bits .or .i64 ((o : Int) * 2) (b : Int) = ((2 * o + b : Nat) : Int) := by rw [Int.mul_comm]; exact eo
          have hi64 : IntKind.u64.wrap (i : Int) = (i : Int) := by rw [IntKind.wrap_u64]; omega
          have ew : IntKind.i64.wrap ((o : Int) * 2) = (o : Int) * 2 := IntWalk.i64_in _ (by omega)
          have ew2 : IntKind.i64.wrap (2 * (o : Int)) = 2 * (o : Int) := IntWalk.i64_in _ (by omega)
          have ew3 : IntKind.i64.wrap ((o : Int) * 2 ^ 1) = (o : Int) * 2 := by rw [show (o : Int) * 2 ^ 1 = (o : Int) * 2 from by omega]; exact ew
          have hnq := HN2.out q hq
          have HNQ := Lib.hid hnq
          have HZ := Lib.hid hz
          clear hi hiI hjq hb ho hnext hz hnq
          have ezz : bits .and .i64 ((v : Int) / 2 ^ min i 64) 1 = (b : Int) := by rw [hmin, hzI]; exact ea
          go_upto_region 17 with fail
          go_region_held3 (fun w' => 0 ≤ w'.heap.size)
            (first | exact Nat.zero_le _)
            (first
              | (go_at_call 69; refine (even_any _).mono ?_; rintro e w2 hm; have HM := Lib.hid hm; have HA2 := Lib.hid ((show Adv w g bx v0 s ((ds ++ List.replicate j (evenS, 1) ++ [(evenS, 0)]) ++ tailS v j q) _ from (by first | exact HAq.out | exact HAq.out.drew)).grow hm.2.2.1); obtain rfl := hm.1; clear hm)
              | (go_at_call 55; refine (HA2.out.put HS.out HNQ.out _ evenS HM.out.2.1 (Nat.ne_of_gt HAq.out.glt) evenS_in evenS_good b (b : Int) rfl hb2).mono ?_; rintro e w3 ⟨rfl, h3⟩; have HA3 := Lib.hid h3; clear h3)
              | fail)
          go_wp2
          go_roundg (j + 1 - (q + 1))
          case measure => omega
          case rel =>
            refine ⟨q + 1, by omega, rfl, ?_, ?_, ?_⟩
            · have h1 := HIJ.out.2
              rw [show j - (q + 1) = i from by omega, HNEXT.out]
              first | rfl | (push_cast; rfl)
            · congr 1
              have h1 := HIJ.out.1
              have h2 := HIJ.out.2
              omega
            · show Adv _ _ _ _ _ _ _
              rw [tailS_snoc, ← List.append_assoc, ← HIJ.out.1, ← HBI.out]
              exact HA3.out
        · obtain rfl : q = j := by omega
          have hneg : (q : Int) - 1 - q < 0 := by omega
          have hnegd : decide ((0 : Int) ≤ (q : Int) - 1 - q) = false := decide_eq_false (by omega)
          have e1 : v / 2 ^ (q - q) = v := by rw [Nat.sub_self, Nat.pow_zero, Nat.div_one]
          rw [e1]
          go_wp2
          go_ret2
          refine ⟨rfl, ?_⟩
          rw [HSY.out, ← List.append_assoc, ← List.append_assoc]
          exact HAq.out
end Go.Proofs.Ytikjolinendfgaa.Spe
namespace Go.Proofs.Ytikjolinendfgaa.Spe
open Go.RowKit Go.Proofs.YtikjolinendfgaaW.PrintWords Go.Proofs.YtikjolinendfgaaW.PrintLast Go.Proofs.YtikjolinendfgaaW.PrintMore Go.Proofs.Ytikjolinendfgaa.Bit Go.Proofs.Ytikjolinendfgaa.Ari

/-- the symbols of a line -/
def symsL (L : List Int) (x : Int) : List (List Int × Nat) := (tabS (ctx L), min x.natAbs 14) :: ((if 14 ≤ x.natAbs then symsB (x.natAbs - 13) else []) ++ (if x = 0 then [] else [(evenS, if x < 0 then 1 else 0)]))
theorem symsL_len (L : List Int) (x : Int) (hx : -32767 ≤ x ∧ x ≤ 32767) : (symsL L x).length ≤ 40 := by
  have h1 : (if 14 ≤ x.natAbs then symsB (x.natAbs - 13) else []).length ≤ 29 := by
    split
    · rw [symsB_len]
      have h2 : Nat.log2 (x.natAbs - 13) ≤ 14 := by
        rcases Nat.lt_or_ge 14 (Nat.log2 (x.natAbs - 13)) with h | h
        · exfalso
          have h1 := Nat.log2_self_le (n := x.natAbs - 13) (by omega)
          have h2 : 2 ^ 15 ≤ 2 ^ Nat.log2 (x.natAbs - 13) := Nat.pow_le_pow_right (by decide) h
          omega
        · exact h
      omega
    · simp
  have h2 : (if x = 0 then ([] : List (List Int × Nat)) else [(evenS, if x < 0 then 1 else 0)]).length ≤ 1 := by split <;> simp
  unfold symsL
  rw [List.length_cons, List.length_append]
  omega
theorem ret2 {a b : Int} (h : a = b) : Ending.returned (.tuple #[.int .i64 a, .int .i64 0]) = .returned (.tuple #[.int .i64 b, .int .i64 0]) := by rw [h]
set_option maxRecDepth 100000 in
set_option maxHeartbeats 2000000 in
theorem line_zero (w : World) (g bx : Nat) (v0 : Value) (s : St) (ds : List (List Int × Nat)) (W : World) (A : Option Addr) (n c : Nat) (L : List Int) (h : Adv w g bx v0 s ds W) (hs : Ari.Rest s) (hn : Q.steps s + 14 * (ds.length + 80) ≤ 1000000) (hr : ReadsInt W .i64 A n L) (hc : n ≤ c) (hb : ∀ x ∈ L, -32767 ≤ x ∧ x ≤ 32767) (x : Int) (hx : x = 0) :
    Calls Try.prog 56 #[.func (.func 55) #[] #[.pointer (some ⟨bx, 0, none⟩)], .slice A n c, .int .i64 x] W fun e w' => e = .returned (.tuple #[.int .i64 x, .int .i64 0]) ∧ Adv w g bx v0 s (ds ++ symsL L x) w' := by
  subst hx
  have ha : (0 : Int).natAbs = 0 := rfl
  have HN0 : Hid (Q.steps s + 14 * ds.length ≤ 1000000) := by show _ ≤ _; omega
  have HSY : Hid (symsL L 0 = [(tabS (ctx L), 0)]) := rfl
  have HH := Lib.hid h
  have HS := Lib.hid hs
  have HCX := Lib.hid (context_any A n c L W hr hc hb)
  have HSZ := Lib.hid (fun W => size_any 0 (by omega) W)
  rw [ha] at HSZ
  clear h hs hr hb
  go_enter Try.func56, Try.ntmps56
  go_wp2_with (first
    | (go_at_call 66; refine HCX.out.mono ?_; rintro e w1 ⟨rfl, rfl⟩)
    | (go_at_call 65; refine (table_any (ctx L) _ rfl _).mono ?_; rintro e w2 hm; have HM := Lib.hid hm; have HA2 := Lib.hid (HH.out.grow hm.2.2.1); obtain rfl := hm.1; clear hm)
    | (go_at_call 67; refine (HSZ.out _).mono ?_; rintro e w3 ⟨rfl, rfl⟩)
    | (go_at_call 55; refine (HA2.out.put HS.out HN0.out _ (tabS (ctx L)) HM.out.2.1 (Nat.ne_of_gt HH.out.glt) (tabS_in _) (tabS_good _) 0 0 rfl (by rw [tabS_len]; decide)).mono ?_; rintro e w4 ⟨rfl, h4⟩; have HA4 := Lib.hid h4; clear h4 HA2 HM))
  go_ret2
  exact ⟨rfl, by rw [HSY.out]; exact HA4.out⟩
set_option maxRecDepth 100000 in
set_option maxHeartbeats 2000000 in
theorem line_small_pos (w : World) (g bx : Nat) (v0 : Value) (s : St) (ds : List (List Int × Nat)) (W : World) (A : Option Addr) (n c : Nat) (L : List Int) (h : Adv w g bx v0 s ds W) (hs : Ari.Rest s) (hn : Q.steps s + 14 * (ds.length + 80) ≤ 1000000) (hr : ReadsInt W .i64 A n L) (hc : n ≤ c) (hb : ∀ x ∈ L, -32767 ≤ x ∧ x ≤ 32767) (x : Int) (hx0 : 0 < x) (hx1 : x < 14) :
    Calls Try.prog 56 #[.func (.func 55) #[] #[.pointer (some ⟨bx, 0, none⟩)], .slice A n c, .int .i64 x] W fun e w' => e = .returned (.tuple #[.int .i64 x, .int .i64 0]) ∧ Adv w g bx v0 s (ds ++ symsL L x) w' := by
  obtain ⟨a, ha⟩ : ∃ a, x.natAbs = a := ⟨_, rfl⟩
  have ha14 : 1 ≤ a ∧ a < 14 := by omega
  have HAL : Hid (a < (tabS (ctx L)).length) := by show _ < _; rw [tabS_len]; omega
  have g1 : ((a : Int) == 14) = false := beq_eq_false_iff_ne.2 (by omega)
  have g2 : decide ((32767 : Int) < (a : Int)) = false := decide_eq_false (by omega)
  have g3 : ((a : Int) == 0) = false := beq_eq_false_iff_ne.2 (by omega)
  have hxa : x = (a : Int) := by omega
  have HXA := Lib.hid hxa
  have gsg : decide (x < 0) = false := decide_eq_false (by omega)
  have HSY : Hid (symsL L x = [(tabS (ctx L), a)] ++ [(evenS, 0)]) := by
    show _ = _
    unfold symsL
    rw [ha, if_neg (by omega), if_neg (by omega), if_neg (by omega), show min a 14 = a from by omega]
    rfl
  have HN0 : Hid (Q.steps s + 14 * ds.length ≤ 1000000) := by show _ ≤ _; omega
  have HN1 : Hid (Q.steps s + 14 * (ds ++ [(tabS (ctx L), a)]).length ≤ 1000000) := by show _ ≤ _; rw [List.length_append, List.length_singleton]; omega
  clear hxa
  have HH := Lib.hid h
  have HS := Lib.hid hs
  have HCX := Lib.hid (context_any A n c L W hr hc hb)
  have HSZ := Lib.hid (fun W => size_any x (by omega) W)
  rw [ha] at HSZ
  clear h hs hr hb hx0 hx1 ha
  go_enter Try.func56, Try.ntmps56
  go_wp2_with (first
    | (go_at_call 66; refine HCX.out.mono ?_; rintro e w1 ⟨rfl, rfl⟩)
    | (go_at_call 65; refine (table_any (ctx L) _ rfl _).mono ?_; rintro e w2 hm; have HM := Lib.hid hm; have HA2 := Lib.hid (HH.out.grow hm.2.2.1); obtain rfl := hm.1; clear hm)
    | (go_at_call 67; refine (HSZ.out _).mono ?_; rintro e w3 ⟨rfl, rfl⟩)
    | (go_at_call 55; refine (HA2.out.put HS.out HN0.out _ (tabS (ctx L)) HM.out.2.1 (Nat.ne_of_gt HH.out.glt) (tabS_in _) (tabS_good _) a (a : Int) rfl HAL.out).mono ?_; rintro e w4 ⟨rfl, h4⟩; have HA4 := Lib.hid h4; clear h4 HA2 HM)
    | (go_at_call 69; refine (even_any _).mono ?_; rintro e w5 hm; have HM5 := Lib.hid hm; obtain rfl := hm.1; clear hm)
    | (go_at_call 55; refine (HA4.out.bit HS.out HN1.out HM5.out 0 0 rfl (by decide)).mono ?_; rintro e w6 ⟨rfl, h6⟩; have HA6 := Lib.hid h6; clear h6))
  go_ret2
  refine ⟨?_, by rw [HSY.out, ← List.append_assoc]; exact HA6.out⟩
  have h := HXA.out
  refine ret2 ?_
  omega
set_option maxRecDepth 100000 in
set_option maxHeartbeats 2000000 in
theorem line_big_pos (w : World) (g bx : Nat) (v0 : Value) (s : St) (ds : List (List Int × Nat)) (W : World) (A : Option Addr) (n c : Nat) (L : List Int) (h : Adv w g bx v0 s ds W) (hs : Ari.Rest s) (hn : Q.steps s + 14 * (ds.length + 80) ≤ 1000000) (hr : ReadsInt W .i64 A n L) (hc : n ≤ c) (hb : ∀ x ∈ L, -32767 ≤ x ∧ x ≤ 32767) (x : Int) (hx0 : 14 < x) (hx1 : x ≤ 32767) :
    Calls Try.prog 56 #[.func (.func 55) #[] #[.pointer (some ⟨bx, 0, none⟩)], .slice A n c, .int .i64 x] W fun e w' => e = .returned (.tuple #[.int .i64 x, .int .i64 0]) ∧ Adv w g bx v0 s (ds ++ symsL L x) w' := by
  obtain ⟨a, ha⟩ : ∃ a, x.natAbs = a := ⟨_, rfl⟩
  have ha14 : 14 < a ∧ a ≤ 32767 := by omega
  have g2 : decide ((32767 : Int) < (a : Int)) = false := decide_eq_false (by omega)
  have g3 : ((a : Int) == 0) = false := beq_eq_false_iff_ne.2 (by omega)
  have hxa : x = (a : Int) := by omega
  have HXA := Lib.hid hxa
  have gsg : decide (x < 0) = false := decide_eq_false (by omega)
  obtain ⟨v, hv⟩ : ∃ v, v = a - 13 := ⟨_, rfl⟩
  have hv2 : (a : Int) - 14 + 1 = (v : Int) := by omega
  have hv3 : (v : Int) + 14 - 1 = (a : Int) := by omega
  have hv4 : 1 ≤ v ∧ v < 32768 := by omega
  have hv5 : 2 ≤ v := by omega
  have HV4 := Lib.hid hv4
  have HSY : Hid (symsL L x = [(tabS (ctx L), 14)] ++ symsB v ++ [(evenS, 0)]) := by
    show _ = _
    unfold symsL
    rw [ha, if_pos (by omega), if_neg (by omega), if_neg (by omega), show min a 14 = 14 from by omega, hv]
    rfl
  have hlb : (symsB v).length ≤ 29 := by
    rw [symsB_len]
    have h2 : Nat.log2 v ≤ 14 := by
      rcases Nat.lt_or_ge 14 (Nat.log2 v) with h | h
      · exfalso
        have h1 := Nat.log2_self_le (n := v) (by omega)
        have h2 : 2 ^ 15 ≤ 2 ^ Nat.log2 v := Nat.pow_le_pow_right (by decide) h
        omega
      · exact h
    omega
  have HN0 : Hid (Q.steps s + 14 * ds.length ≤ 1000000) := by show _ ≤ _; omega
  have HN3 : Hid (Q.steps s + 14 * ((ds ++ [(tabS (ctx L), 14)]).length + 40) ≤ 1000000) := by show _ ≤ _; rw [List.length_append, List.length_singleton]; omega
  have HN1 : Hid (Q.steps s + 14 * (ds ++ [(tabS (ctx L), 14)] ++ symsB v).length ≤ 1000000) := by show _ ≤ _; rw [List.length_append, List.length_append, List.length_singleton]; omega
  clear hxa hlb hv
  have HH := Lib.hid h
  have HS := Lib.hid hs
  have HCX := Lib.hid (context_any A n c L W hr hc hb)
  have HSZ := Lib.hid (fun W => size_any x (by omega) W)
  rw [ha] at HSZ
  clear h hs hr hb hx0 hx1 ha
  go_enter Try.func56, Try.ntmps56
  go_wp2_with (first
    | (go_at_call 66; refine HCX.out.mono ?_; rintro e w1 ⟨rfl, rfl⟩)
    | (go_at_call 65; refine (table_any (ctx L) _ rfl _).mono ?_; rintro e w2 hm; have HM := Lib.hid hm; have HA2 := Lib.hid (HH.out.grow hm.2.2.1); obtain rfl := hm.1; clear hm)
    | (go_at_call 67; refine (HSZ.out _).mono ?_; rintro e w3 ⟨rfl, rfl⟩)
    | (go_at_call 55; refine (HA2.out.put HS.out HN0.out _ (tabS (ctx L)) HM.out.2.1 (Nat.ne_of_gt HH.out.glt) (tabS_in _) (tabS_good _) 14 14 rfl (by rw [tabS_len]; decide)).mono ?_; rintro e w4 ⟨rfl, h4⟩; have HA4 := Lib.hid h4; clear h4 HA2 HM)
    | (go_at_call 68; refine (beyond_put w g bx v0 s _ _ v HA4.out HS.out HN3.out HV4.out.1 HV4.out.2).mono ?_; rintro e w7 ⟨rfl, h7⟩; have HA7 := Lib.hid h7; clear h7)
    | (go_at_call 69; refine (even_any _).mono ?_; rintro e w5 hm; have HM5 := Lib.hid hm; obtain rfl := hm.1; clear hm)
    | (go_at_call 55; refine (HA7.out.bit HS.out HN1.out HM5.out 0 0 rfl (by decide)).mono ?_; rintro e w6 ⟨rfl, h6⟩; have HA6 := Lib.hid h6; clear h6))
  go_ret2
  refine ⟨?_, by rw [HSY.out, ← List.append_assoc, ← List.append_assoc]; exact HA6.out⟩
  have h := HXA.out
  refine ret2 ?_
  omega
set_option maxRecDepth 100000 in
set_option maxHeartbeats 2000000 in
theorem line_small_neg (w : World) (g bx : Nat) (v0 : Value) (s : St) (ds : List (List Int × Nat)) (W : World) (A : Option Addr) (n c : Nat) (L : List Int) (h : Adv w g bx v0 s ds W) (hs : Ari.Rest s) (hn : Q.steps s + 14 * (ds.length + 80) ≤ 1000000) (hr : ReadsInt W .i64 A n L) (hc : n ≤ c) (hb : ∀ x ∈ L, -32767 ≤ x ∧ x ≤ 32767) (x : Int) (hx0 : x < 0) (hx1 : -14 < x) :
    Calls Try.prog 56 #[.func (.func 55) #[] #[.pointer (some ⟨bx, 0, none⟩)], .slice A n c, .int .i64 x] W fun e w' => e = .returned (.tuple #[.int .i64 x, .int .i64 0]) ∧ Adv w g bx v0 s (ds ++ symsL L x) w' := by
  obtain ⟨a, ha⟩ : ∃ a, x.natAbs = a := ⟨_, rfl⟩
  have ha14 : 1 ≤ a ∧ a < 14 := by omega
  have HAL : Hid (a < (tabS (ctx L)).length) := by show _ < _; rw [tabS_len]; omega
  have g1 : ((a : Int) == 14) = false := beq_eq_false_iff_ne.2 (by omega)
  have g2 : decide ((32767 : Int) < (a : Int)) = false := decide_eq_false (by omega)
  have g3 : ((a : Int) == 0) = false := beq_eq_false_iff_ne.2 (by omega)
  have hxa : x = -(a : Int) := by omega
  have HXA := Lib.hid hxa
  have gsg : decide (x < 0) = true := decide_eq_true (by omega)
  have HSY : Hid (symsL L x = [(tabS (ctx L), a)] ++ [(evenS, 1)]) := by
    show _ = _
    unfold symsL
    rw [ha, if_neg (by omega), if_neg (by omega), if_pos (by omega), show min a 14 = a from by omega]
    rfl
  have HN0 : Hid (Q.steps s + 14 * ds.length ≤ 1000000) := by show _ ≤ _; omega
  have HN1 : Hid (Q.steps s + 14 * (ds ++ [(tabS (ctx L), a)]).length ≤ 1000000) := by show _ ≤ _; rw [List.length_append, List.length_singleton]; omega
  clear hxa
  have HH := Lib.hid h
  have HS := Lib.hid hs
  have HCX := Lib.hid (context_any A n c L W hr hc hb)
  have HSZ := Lib.hid (fun W => size_any x (by omega) W)
  rw [ha] at HSZ
  clear h hs hr hb hx0 hx1 ha
  go_enter Try.func56, Try.ntmps56
  go_wp2_with (first
    | (go_at_call 66; refine HCX.out.mono ?_; rintro e w1 ⟨rfl, rfl⟩)
    | (go_at_call 65; refine (table_any (ctx L) _ rfl _).mono ?_; rintro e w2 hm; have HM := Lib.hid hm; have HA2 := Lib.hid (HH.out.grow hm.2.2.1); obtain rfl := hm.1; clear hm)
    | (go_at_call 67; refine (HSZ.out _).mono ?_; rintro e w3 ⟨rfl, rfl⟩)
    | (go_at_call 55; refine (HA2.out.put HS.out HN0.out _ (tabS (ctx L)) HM.out.2.1 (Nat.ne_of_gt HH.out.glt) (tabS_in _) (tabS_good _) a (a : Int) rfl HAL.out).mono ?_; rintro e w4 ⟨rfl, h4⟩; have HA4 := Lib.hid h4; clear h4 HA2 HM)
    | (go_at_call 69; refine (even_any _).mono ?_; rintro e w5 hm; have HM5 := Lib.hid hm; obtain rfl := hm.1; clear hm)
    | (go_at_call 55; refine (HA4.out.bit HS.out HN1.out HM5.out 1 1 rfl (by decide)).mono ?_; rintro e w6 ⟨rfl, h6⟩; have HA6 := Lib.hid h6; clear h6))
  go_ret2
  refine ⟨?_, by rw [HSY.out, ← List.append_assoc]; exact HA6.out⟩
  have h := HXA.out
  refine ret2 ?_
  omega
set_option maxRecDepth 100000 in
set_option maxHeartbeats 2000000 in
theorem line_big_neg (w : World) (g bx : Nat) (v0 : Value) (s : St) (ds : List (List Int × Nat)) (W : World) (A : Option Addr) (n c : Nat) (L : List Int) (h : Adv w g bx v0 s ds W) (hs : Ari.Rest s) (hn : Q.steps s + 14 * (ds.length + 80) ≤ 1000000) (hr : ReadsInt W .i64 A n L) (hc : n ≤ c) (hb : ∀ x ∈ L, -32767 ≤ x ∧ x ≤ 32767) (x : Int) (hx0 : x < -14) (hx1 : -32767 ≤ x) :
    Calls Try.prog 56 #[.func (.func 55) #[] #[.pointer (some ⟨bx, 0, none⟩)], .slice A n c, .int .i64 x] W fun e w' => e = .returned (.tuple #[.int .i64 x, .int .i64 0]) ∧ Adv w g bx v0 s (ds ++ symsL L x) w' := by
  obtain ⟨a, ha⟩ : ∃ a, x.natAbs = a := ⟨_, rfl⟩
  have ha14 : 14 < a ∧ a ≤ 32767 := by omega
  have g2 : decide ((32767 : Int) < (a : Int)) = false := decide_eq_false (by omega)
  have g3 : ((a : Int) == 0) = false := beq_eq_false_iff_ne.2 (by omega)
  have hxa : x = -(a : Int) := by omega
  have HXA := Lib.hid hxa
  have gsg : decide (x < 0) = true := decide_eq_true (by omega)
  obtain ⟨v, hv⟩ : ∃ v, v = a - 13 := ⟨_, rfl⟩
  have hv2 : (a : Int) - 14 + 1 = (v : Int) := by omega
  have hv3 : (v : Int) + 14 - 1 = (a : Int) := by omega
  have hv4 : 1 ≤ v ∧ v < 32768 := by omega
  have hv5 : 2 ≤ v := by omega
  have HV4 := Lib.hid hv4
  have HSY : Hid (symsL L x = [(tabS (ctx L), 14)] ++ symsB v ++ [(evenS, 1)]) := by
    show _ = _
    unfold symsL
    rw [ha, if_pos (by omega), if_neg (by omega), if_pos (by omega), show min a 14 = 14 from by omega, hv]
    rfl
  have hlb : (symsB v).length ≤ 29 := by
    rw [symsB_len]
    have h2 : Nat.log2 v ≤ 14 := by
      rcases Nat.lt_or_ge 14 (Nat.log2 v) with h | h
      · exfalso
        have h1 := Nat.log2_self_le (n := v) (by omega)
        have h2 : 2 ^ 15 ≤ 2 ^ Nat.log2 v := Nat.pow_le_pow_right (by decide) h
        omega
      · exact h
    omega
  have HN0 : Hid (Q.steps s + 14 * ds.length ≤ 1000000) := by show _ ≤ _; omega
  have HN3 : Hid (Q.steps s + 14 * ((ds ++ [(tabS (ctx L), 14)]).length + 40) ≤ 1000000) := by show _ ≤ _; rw [List.length_append, List.length_singleton]; omega
  have HN1 : Hid (Q.steps s + 14 * (ds ++ [(tabS (ctx L), 14)] ++ symsB v).length ≤ 1000000) := by show _ ≤ _; rw [List.length_append, List.length_append, List.length_singleton]; omega
  clear hxa hlb hv
  have HH := Lib.hid h
  have HS := Lib.hid hs
  have HCX := Lib.hid (context_any A n c L W hr hc hb)
  have HSZ := Lib.hid (fun W => size_any x (by omega) W)
  rw [ha] at HSZ
  clear h hs hr hb hx0 hx1 ha
  go_enter Try.func56, Try.ntmps56
  go_wp2_with (first
    | (go_at_call 66; refine HCX.out.mono ?_; rintro e w1 ⟨rfl, rfl⟩)
    | (go_at_call 65; refine (table_any (ctx L) _ rfl _).mono ?_; rintro e w2 hm; have HM := Lib.hid hm; have HA2 := Lib.hid (HH.out.grow hm.2.2.1); obtain rfl := hm.1; clear hm)
    | (go_at_call 67; refine (HSZ.out _).mono ?_; rintro e w3 ⟨rfl, rfl⟩)
    | (go_at_call 55; refine (HA2.out.put HS.out HN0.out _ (tabS (ctx L)) HM.out.2.1 (Nat.ne_of_gt HH.out.glt) (tabS_in _) (tabS_good _) 14 14 rfl (by rw [tabS_len]; decide)).mono ?_; rintro e w4 ⟨rfl, h4⟩; have HA4 := Lib.hid h4; clear h4 HA2 HM)
    | (go_at_call 68; refine (beyond_put w g bx v0 s _ _ v HA4.out HS.out HN3.out HV4.out.1 HV4.out.2).mono ?_; rintro e w7 ⟨rfl, h7⟩; have HA7 := Lib.hid h7; clear h7)
    | (go_at_call 69; refine (even_any _).mono ?_; rintro e w5 hm; have HM5 := Lib.hid hm; obtain rfl := hm.1; clear hm)
    | (go_at_call 55; refine (HA7.out.bit HS.out HN1.out HM5.out 1 1 rfl (by decide)).mono ?_; rintro e w6 ⟨rfl, h6⟩; have HA6 := Lib.hid h6; clear h6))
  go_ret2
  refine ⟨?_, by rw [HSY.out, ← List.append_assoc, ← List.append_assoc]; exact HA6.out⟩
  have h := HXA.out
  refine ret2 ?_
  omega
set_option maxRecDepth 100000 in
set_option maxHeartbeats 2000000 in
theorem line_edge_pos (w : World) (g bx : Nat) (v0 : Value) (s : St) (ds : List (List Int × Nat)) (W : World) (A : Option Addr) (n c : Nat) (L : List Int) (h : Adv w g bx v0 s ds W) (hs : Ari.Rest s) (hn : Q.steps s + 14 * (ds.length + 80) ≤ 1000000) (hr : ReadsInt W .i64 A n L) (hc : n ≤ c) (hb : ∀ x ∈ L, -32767 ≤ x ∧ x ≤ 32767) (x : Int) (hx : x = 14) :
    Calls Try.prog 56 #[.func (.func 55) #[] #[.pointer (some ⟨bx, 0, none⟩)], .slice A n c, .int .i64 x] W fun e w' => e = .returned (.tuple #[.int .i64 x, .int .i64 0]) ∧ Adv w g bx v0 s (ds ++ symsL L x) w' := by
  subst hx
  have ha : (14 : Int).natAbs = 14 := rfl
  have HSY : Hid (symsL L (14) = [(tabS (ctx L), 14)] ++ symsB 1 ++ [(evenS, 0)]) := by
    show _ = _
    unfold symsL
    rw [ha, if_pos (by decide), if_neg (by decide), if_neg (by decide)]
    rfl
  have hlb : (symsB 1).length ≤ 29 := by rw [symsB_len]; decide
  have HN0 : Hid (Q.steps s + 14 * ds.length ≤ 1000000) := by show _ ≤ _; omega
  have HN3 : Hid (Q.steps s + 14 * ((ds ++ [(tabS (ctx L), 14)]).length + 40) ≤ 1000000) := by show _ ≤ _; rw [List.length_append, List.length_singleton]; omega
  have HN1 : Hid (Q.steps s + 14 * (ds ++ [(tabS (ctx L), 14)] ++ symsB 1).length ≤ 1000000) := by show _ ≤ _; rw [List.length_append, List.length_append, List.length_singleton]; omega
  clear hlb
  have HH := Lib.hid h
  have HS := Lib.hid hs
  have HCX := Lib.hid (context_any A n c L W hr hc hb)
  have HSZ := Lib.hid (fun W => size_any (14) (by decide) W)
  rw [ha] at HSZ
  clear h hs hr hb ha
  go_enter Try.func56, Try.ntmps56
  go_wp2_with (first
    | (go_at_call 66; refine HCX.out.mono ?_; rintro e w1 ⟨rfl, rfl⟩)
    | (go_at_call 65; refine (table_any (ctx L) _ rfl _).mono ?_; rintro e w2 hm; have HM := Lib.hid hm; have HA2 := Lib.hid (HH.out.grow hm.2.2.1); obtain rfl := hm.1; clear hm)
    | (go_at_call 67; refine (HSZ.out _).mono ?_; rintro e w3 ⟨rfl, rfl⟩)
    | (go_at_call 55; refine (HA2.out.put HS.out HN0.out _ (tabS (ctx L)) HM.out.2.1 (Nat.ne_of_gt HH.out.glt) (tabS_in _) (tabS_good _) 14 14 rfl (by rw [tabS_len]; decide)).mono ?_; rintro e w4 ⟨rfl, h4⟩; have HA4 := Lib.hid h4; clear h4 HA2 HM)
    | (go_at_call 68; refine (beyond_put w g bx v0 s _ _ 1 HA4.out HS.out HN3.out (by decide) (by decide)).mono ?_; rintro e w7 ⟨rfl, h7⟩; have HA7 := Lib.hid h7; clear h7)
    | (go_at_call 69; refine (even_any _).mono ?_; rintro e w5 hm; have HM5 := Lib.hid hm; obtain rfl := hm.1; clear hm)
    | (go_at_call 55; refine (HA7.out.bit HS.out HN1.out HM5.out 0 0 rfl (by decide)).mono ?_; rintro e w6 ⟨rfl, h6⟩; have HA6 := Lib.hid h6; clear h6))
  go_ret2
  exact ⟨rfl, by rw [HSY.out, ← List.append_assoc, ← List.append_assoc]; exact HA6.out⟩
set_option maxRecDepth 100000 in
set_option maxHeartbeats 2000000 in
theorem line_edge_neg (w : World) (g bx : Nat) (v0 : Value) (s : St) (ds : List (List Int × Nat)) (W : World) (A : Option Addr) (n c : Nat) (L : List Int) (h : Adv w g bx v0 s ds W) (hs : Ari.Rest s) (hn : Q.steps s + 14 * (ds.length + 80) ≤ 1000000) (hr : ReadsInt W .i64 A n L) (hc : n ≤ c) (hb : ∀ x ∈ L, -32767 ≤ x ∧ x ≤ 32767) (x : Int) (hx : x = -14) :
    Calls Try.prog 56 #[.func (.func 55) #[] #[.pointer (some ⟨bx, 0, none⟩)], .slice A n c, .int .i64 x] W fun e w' => e = .returned (.tuple #[.int .i64 x, .int .i64 0]) ∧ Adv w g bx v0 s (ds ++ symsL L x) w' := by
  subst hx
  have ha : (-14 : Int).natAbs = 14 := rfl
  have HSY : Hid (symsL L (-14) = [(tabS (ctx L), 14)] ++ symsB 1 ++ [(evenS, 1)]) := by
    show _ = _
    unfold symsL
    rw [ha, if_pos (by decide), if_neg (by decide), if_pos (by decide)]
    rfl
  have hlb : (symsB 1).length ≤ 29 := by rw [symsB_len]; decide
  have HN0 : Hid (Q.steps s + 14 * ds.length ≤ 1000000) := by show _ ≤ _; omega
  have HN3 : Hid (Q.steps s + 14 * ((ds ++ [(tabS (ctx L), 14)]).length + 40) ≤ 1000000) := by show _ ≤ _; rw [List.length_append, List.length_singleton]; omega
  have HN1 : Hid (Q.steps s + 14 * (ds ++ [(tabS (ctx L), 14)] ++ symsB 1).length ≤ 1000000) := by show _ ≤ _; rw [List.length_append, List.length_append, List.length_singleton]; omega
  clear hlb
  have HH := Lib.hid h
  have HS := Lib.hid hs
  have HCX := Lib.hid (context_any A n c L W hr hc hb)
  have HSZ := Lib.hid (fun W => size_any (-14) (by decide) W)
  rw [ha] at HSZ
  clear h hs hr hb ha
  go_enter Try.func56, Try.ntmps56
  go_wp2_with (first
    | (go_at_call 66; refine HCX.out.mono ?_; rintro e w1 ⟨rfl, rfl⟩)
    | (go_at_call 65; refine (table_any (ctx L) _ rfl _).mono ?_; rintro e w2 hm; have HM := Lib.hid hm; have HA2 := Lib.hid (HH.out.grow hm.2.2.1); obtain rfl := hm.1; clear hm)
    | (go_at_call 67; refine (HSZ.out _).mono ?_; rintro e w3 ⟨rfl, rfl⟩)
    | (go_at_call 55; refine (HA2.out.put HS.out HN0.out _ (tabS (ctx L)) HM.out.2.1 (Nat.ne_of_gt HH.out.glt) (tabS_in _) (tabS_good _) 14 14 rfl (by rw [tabS_len]; decide)).mono ?_; rintro e w4 ⟨rfl, h4⟩; have HA4 := Lib.hid h4; clear h4 HA2 HM)
    | (go_at_call 68; refine (beyond_put w g bx v0 s _ _ 1 HA4.out HS.out HN3.out (by decide) (by decide)).mono ?_; rintro e w7 ⟨rfl, h7⟩; have HA7 := Lib.hid h7; clear h7)
    | (go_at_call 69; refine (even_any _).mono ?_; rintro e w5 hm; have HM5 := Lib.hid hm; obtain rfl := hm.1; clear hm)
    | (go_at_call 55; refine (HA7.out.bit HS.out HN1.out HM5.out 1 1 rfl (by decide)).mono ?_; rintro e w6 ⟨rfl, h6⟩; have HA6 := Lib.hid h6; clear h6))
  go_ret2
  exact ⟨rfl, by rw [HSY.out, ← List.append_assoc, ← List.append_assoc]; exact HA6.out⟩
theorem line_put (w : World) (g bx : Nat) (v0 : Value) (s : St) (ds : List (List Int × Nat)) (W : World) (A : Option Addr) (n c : Nat) (L : List Int) (h : Adv w g bx v0 s ds W) (hs : Ari.Rest s) (hn : Q.steps s + 14 * (ds.length + 80) ≤ 1000000) (hr : ReadsInt W .i64 A n L) (hc : n ≤ c) (hb : ∀ x ∈ L, -32767 ≤ x ∧ x ≤ 32767) (x : Int) (hx : -32767 ≤ x ∧ x ≤ 32767) :
    Calls Try.prog 56 #[.func (.func 55) #[] #[.pointer (some ⟨bx, 0, none⟩)], .slice A n c, .int .i64 x] W fun e w' => e = .returned (.tuple #[.int .i64 x, .int .i64 0]) ∧ Adv w g bx v0 s (ds ++ symsL L x) w' := by
  rcases (show x = 0 ∨ (0 < x ∧ x < 14) ∨ (x < 0 ∧ -14 < x) ∨ 14 < x ∨ x < -14 ∨ x = 14 ∨ x = -14 by omega) with h0 | ⟨h1, h2⟩ | ⟨h1, h2⟩ | h1 | h1 | h1 | h1
  · subst h0; exact line_zero w g bx v0 s ds W A n c L h hs hn hr hc hb 0 rfl
  · exact line_small_pos w g bx v0 s ds W A n c L h hs hn hr hc hb x h1 h2
  · exact line_small_neg w g bx v0 s ds W A n c L h hs hn hr hc hb x h1 h2
  · exact line_big_pos w g bx v0 s ds W A n c L h hs hn hr hc hb x h1 hx.2
  · exact line_big_neg w g bx v0 s ds W A n c L h hs hn hr hc hb x h1 hx.1
  · exact line_edge_pos w g bx v0 s ds W A n c L h hs hn hr hc hb x h1
  · exact line_edge_neg w g bx v0 s ds W A n c L h hs hn hr hc hb x h1
end Go.Proofs.Ytikjolinendfgaa.Spe
