/- The walk of the statement SpecGrows. -/
import Derived.Test.YtikjolinendfgaaSpC
set_option linter.unusedVariables false
set_option linter.unusedSimpArgs false
namespace Go.Proofs.Ytikjolinendfgaa.Spe
open Go.RowKit Go.Proofs.YtikjolinendfgaaW.PrintWords Go.Proofs.YtikjolinendfgaaW.PrintLast Go.Proofs.YtikjolinendfgaaW.PrintMore Go.Proofs.Ytikjolinendfgaa.Bit Go.Proofs.Ytikjolinendfgaa.Ari

theorem enc_split : ∀ {a b : List (List Int × Nat)} {s s' : St}, Q.Enc (a ++ b) s s' → ∃ u, Q.Enc a s u ∧ Q.Enc b u s'
  | [], b, s, s', h => ⟨s, rfl, h⟩
  | (t, i) :: a, b, s, s', h => by
    obtain ⟨h1, h2, k, u, h3, h4⟩ := h
    obtain ⟨u2, h5, h6⟩ := enc_split h4
    exact ⟨u2, ⟨h1, h2, k, u, h3, h5⟩, h6⟩
theorem enc_rest : ∀ {ds : List (List Int × Nat)} {s s' : St}, Q.Enc ds s s' → Ari.Rest s → Ari.Rest s'
  | [], s, s', h, hr => by obtain rfl : s = s' := h; exact hr
  | (t, i) :: ds, s, s', h, hr => by
    obtain ⟨h1, h2, k, u, h3, h4⟩ := h
    exact enc_rest h4 (Wid.rest h3 (cut_in h1 h2 hr).1)
theorem symsQ_take (L : List Int) (k : Nat) (hk : k ≤ L.length) : ∀ i, i ≤ k → symsQ (L.take k) i = symsQ L i
  | 0, _ => rfl
  | i + 1, h => by
    show symsQ (L.take k) i ++ symsL ((L.take k).take i) (rd (L.take k) (i : Int)) = symsQ L i ++ symsL (L.take i) (rd L (i : Int))
    rw [symsQ_take L k hk i (by omega), List.take_take, show min i k = i from by omega]
    have e : rd (L.take k) (i : Int) = rd L (i : Int) := by
      unfold rd
      rw [Int.toNat_natCast, List.getD_eq_getElem?_getD, List.getElem?_take, if_pos (by omega), ← List.getD_eq_getElem?_getD]
    rw [e]
theorem symsQ_split (L : List Int) (k : Nat) : ∀ j, ∃ r, symsQ L (k + j) = symsQ L k ++ r
  | 0 => ⟨[], by simp⟩
  | j + 1 => by
    obtain ⟨r, h⟩ := symsQ_split L k j
    refine ⟨r ++ symsL (L.take (k + j)) (rd L ((k + j : Nat) : Int)), ?_⟩
    show symsQ L (k + j) ++ _ = _
    rw [h, List.append_assoc]
    rfl
set_option maxRecDepth 100000 in
set_option maxHeartbeats 1000000 in
theorem grows_walk (A : Option Addr) (n c : Nat) (q : List Int) (N : Nat) (w : World) (hN : N < 256) (hr : ReadsInt w .i64 A n q) (hc : n ≤ c) :
    Calls Try.prog 8 #[.slice A n c, .int .u8 N] w fun e w' => e = .returned (.bool true) ∧ Below w.heap.size w w' := by
  have HR := Lib.hid hr
  have hlen : q.length = n := hr.1
  by_cases hm : mayS n q = 0
  · obtain ⟨hn120, hbL⟩ := mayS_ok.1 hm
    obtain ⟨k, hk⟩ : ∃ k, k = N % (n + 1) := ⟨_, rfl⟩
    have hkn : k ≤ n := by have := Nat.mod_lt N (show 0 < n + 1 by omega); omega
    have hkI : (N : Int) % ((n : Int) + 1) = (k : Int) := by rw [hk]; push_cast; rfl
    have hkT : (N : Int).tmod ((n : Int) + 1) = (k : Int) := by rw [Int.tmod_eq_emod_of_nonneg (by omega)]; exact hkI
    have hn0 : ((n : Int) + 1 == 0) = false := beq_eq_false_iff_ne.2 (by omega)
    have hk0 : (0 : Int) ≤ (k : Int) := by omega
    have hkc : (k : Int) ≤ (c : Int) := by omega
    have hmk : mayS k (q.take k) = 0 := mayS_ok.2 ⟨by omega, fun x hx => hbL x (List.mem_of_mem_take hx)⟩
    have H1 := Lib.hid (fun W (hW : ReadsInt W .i64 A n q) => cost_good A n c q W hW hc hm)
    have H2 := Lib.hid (fun W (hW : ReadsInt W .i64 A n q) => cost_good A k c (q.take k) W (hW.take_ k hkn) (by omega) hmk)
    have HSY : Hid (symsQ (q.take k) k = symsQ q k) := symsQ_take q k (by omega) k (Nat.le_refl _)
    have HSP : Hid (∃ r, symsQ q n = symsQ q k ++ r) := by
      obtain ⟨r, hr⟩ := symsQ_split q k (n - k)
      rw [show k + (n - k) = n from by omega] at hr
      exact ⟨r, hr⟩
    clear hr hm hbL hk hmk hlen
    go_enter Try.func8, Try.ntmps8
    go_wp2_with fail
    refine (alive _).mono ?_
    rintro e w1 ⟨rfl, hb1⟩
    have HB1 := Lib.hid hb1
    clear hb1
    go_wp2_with fail
    refine (H1.out _ (HR.out.below HB1.out)).mono ?_
    rintro e w2 ⟨⟨s1, k1, k2, rfl⟩, hb2⟩
    have HB2 := Lib.hid (bt HB1.out hb2)
    clear hb2
    obtain ⟨m1, hm1⟩ : ∃ m1, m1 = Q.steps s1 + 2 := ⟨_, rfl⟩
    rw [← hm1]
    have HK1 := Lib.hid (And.intro hm1 (And.intro k1 k2))
    clear hm1 k1 k2
    go_wp2_with fail
    refine (H2.out _ (HR.out.below HB2.out)).mono ?_
    rintro e w3 ⟨⟨s2, j1, j2, rfl⟩, hb3⟩
    have HB3 := Lib.hid (bt HB2.out hb3)
    clear hb3
    obtain ⟨m2, hm2⟩ : ∃ m2, m2 = Q.steps s2 + 2 := ⟨_, rfl⟩
    rw [← hm2]
    have hle : Q.steps s2 ≤ Q.steps s1 := by
      obtain ⟨r, hr⟩ := HSP.out
      have h1 := HK1.out.2.1
      rw [hr] at h1
      obtain ⟨u, h2, h3⟩ := enc_split h1
      rw [HSY.out] at j1
      have h4 := enc_eq j1 rest_s0
      have h5 := enc_eq h2 rest_s0
      rw [h4, ← h5]
      exact enc_mono h3 (enc_rest h2 rest_s0)
    have n1 : m2 ≤ m1 := by have := HK1.out.1; omega
    have n2 : 2 ≤ m2 := by omega
    have d1 : decide ((m2 : Int) ≤ (m1 : Int)) = true := decide_eq_true (by have := HK1.out.1; omega)
    have d2 : decide ((2 : Int) ≤ (m2 : Int)) = true := decide_eq_true (by omega)
    have d3 : decide ((m1 : Int) ≤ 2 + 560 * (n : Int)) = true := decide_eq_true (by have := HK1.out; omega)
    clear hle hm2 j1 j2
    go_wp2
    go_ret
    exact ⟨rfl, HB3.out⟩
  · obtain ⟨E, hE⟩ : ∃ E, E = mayS n q := ⟨_, rfl⟩
    have hE0 : (E != 0) = true := bne_iff_ne.2 (by rw [hE]; exact hm)
    have H1 := Lib.hid (fun W (hW : ReadsInt W .i64 A n q) => cost_bad A n c q W hW hm)
    rw [← hE] at H1
    clear hr hm hE hlen
    go_enter Try.func8, Try.ntmps8
    go_wp2_with fail
    refine (alive _).mono ?_
    rintro e w1 ⟨rfl, hb1⟩
    have HB1 := Lib.hid hb1
    clear hb1
    go_wp2_with fail
    refine (H1.out _ (HR.out.below HB1.out)).mono ?_
    rintro e w2 ⟨rfl, hb2⟩
    have HB2 := Lib.hid (bt HB1.out hb2)
    clear hb2
    go_wp2
    go_ret
    exact ⟨rfl, HB2.out⟩
theorem grows_of (A : Option Addr) (n c : Nat) (z : List Int) (a : Int) (w : World) (h1 : ReadsInt w .i64 A n z ∧ z.length = n ∧ (∀ n ∈ z, (Lit.int .i64 n).wf = true) ∧ n ≤ c) (h2 : (Lit.int .u8 a).wf = true) :
    Calls Try.prog 8 #[.slice A n c, .int .u8 a] w fun e w' => e = .returned (.bool true) ∧ Below w.heap.size w w' := by
  obtain ⟨r1, -, -, k3⟩ := h1
  have h5 : IntKind.u8.min ≤ a ∧ a ≤ IntKind.u8.max := by simpa [Lit.wf] using h2
  have h6 : 0 ≤ a ∧ a ≤ 255 := h5
  obtain ⟨N, rfl⟩ := Int.eq_ofNat_of_zero_le h6.1
  exact grows_walk A n c z N w (by omega) r1 k3
end Go.Proofs.Ytikjolinendfgaa.Spe
