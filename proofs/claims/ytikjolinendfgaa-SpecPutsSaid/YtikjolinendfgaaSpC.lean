/- The walks of the package spec: Last, Put, Cost, and of the law's alive. -/
import Derived.Test.YtikjolinendfgaaSpB
import Derived.Test.YtikjolinendfgaaArM
set_option linter.unusedVariables false
set_option linter.unusedSimpArgs false
namespace Go.Proofs.Ytikjolinendfgaa.Spe
open Go.RowKit Go.Proofs.YtikjolinendfgaaW.PrintWords Go.Proofs.YtikjolinendfgaaW.PrintLast Go.Proofs.YtikjolinendfgaaW.PrintMore Go.Proofs.Ytikjolinendfgaa.Bit Go.Proofs.Ytikjolinendfgaa.Ari

/-- up to the last one that isn't 0 -/
def lastN (L : List Int) : Nat → Nat
  | 0 => 0
  | k + 1 => if rd L (k : Int) = 0 then lastN L k else k + 1
set_option maxRecDepth 100000 in
set_option maxHeartbeats 1000000 in
theorem last_any (A : Option Addr) (n c : Nat) (L : List Int) (w : World) (hr : ReadsInt w .i64 A n L) :
    Calls Try.prog 36 #[.slice A n c] w fun e w' => e = .returned (.int .i64 (lastN L n)) ∧ w' = w := by
  have HR := Lib.hid hr
  have hn9 := hr.2.1
  obtain ⟨R, hR⟩ : ∃ R, R = lastN L n := ⟨_, rfl⟩
  rw [← hR]
  have HRL := Lib.hid hR
  clear hr hR
  go_enter Try.func36, Try.ntmps36
  go_wp2
  go_loopg [3] n (fun gk x W => ∃ i : Nat, i ≤ n ∧ gk = i ∧ x = .int .i64 i ∧ Hid (R = lastN L i) ∧ W = w)
  case atStart => exact ⟨n, Nat.le_refl _, rfl, rfl, HRL, rfl⟩
  case round =>
    obtain ⟨i, hi, rfl, rfl, HI, rfl⟩ := hrel
    rcases Nat.eq_zero_or_pos gk with h0 | h0
    · subst h0
      have e : R = 0 := HI.out
      clear HI
      go_wp2
      go_ret
      exact ⟨ret_int (by omega), rfl⟩
    · obtain ⟨j, rfl⟩ : ∃ j, gk = j + 1 := ⟨gk - 1, by omega⟩
      obtain ⟨ad, rfl, y⟩ := HR.out.at_ (j : Int) (by omega) (by omega)
      rw [Int.toNat_natCast] at y
      obtain ⟨x, hx⟩ : ∃ x, x = rd L (j : Int) := ⟨_, rfl⟩
      rw [← hx] at y
      have e1 : ((j + 1 : Nat) : Int) - 1 = (j : Int) := by omega
      have e2 : ((j : Int) + 1) - 1 = (j : Int) := by omega
      have hpos : (0 : Int) < ((j + 1 : Nat) : Int) := by omega
      have hj0 : (0 : Int) ≤ (j : Int) := by omega
      have hjn : (j : Int) < (n : Int) := by omega
      by_cases hz : x = 0
      · have HI2 : Hid (R = lastN L j) := by
          show _ = _
          rw [HI.out]
          show (if rd L (j : Int) = 0 then lastN L j else j + 1) = _
          rw [if_pos (by rw [← hx]; exact hz)]
        subst hz
        clear hx HI
        go_wp2
        go_roundg j
        case measure => omega
        case rel => exact ⟨j, by omega, rfl, by first | rfl | (congr 1; omega), HI2, rfl⟩
      · have HI2 : Hid (R = j + 1) := by
          show _ = _
          rw [HI.out]
          show (if rd L (j : Int) = 0 then lastN L j else j + 1) = _
          rw [if_neg (by rw [← hx]; exact hz)]
        have hxz : (x == 0) = false := beq_eq_false_iff_ne.2 hz
        clear hx HI
        go_wp2
        go_ret
        exact ⟨ret_int (by rw [HI2.out]), rfl⟩
/-- the symbols of the first lines -/
def symsQ (L : List Int) : Nat → List (List Int × Nat)
  | 0 => []
  | i + 1 => symsQ L i ++ symsL (L.take i) (rd L (i : Int))
theorem symsQ_len (L : List Int) (hb : ∀ x ∈ L, -32767 ≤ x ∧ x ≤ 32767) : ∀ i, i ≤ L.length → (symsQ L i).length ≤ 40 * i
  | 0, _ => by simp [symsQ]
  | i + 1, h => by
    have h1 := symsQ_len L hb i (by omega)
    have h2 := symsL_len (L.take i) (rd L (i : Int)) (by rw [rd_mem L i (by omega)]; exact hb _ (List.getElem_mem (by omega)))
    show (symsQ L i ++ _).length ≤ _
    rw [List.length_append]
    omega
theorem reads_under {w W : World} {g : Nat} {k : IntKind} {A : Option Addr} {n : Nat} {L : List Int} (h : ReadsInt w k A n L) (hA : ∀ ad, A = some ad → ad.block < g) (hb : Below g w W) : ReadsInt W k A n L := by
  refine ⟨h.1, h.2.1, fun h0 => ?_⟩
  obtain ⟨ad, e, hc⟩ := h.2.2 h0
  refine ⟨ad, e, fun j hj => ?_⟩
  rw [← hc j hj]
  exact World.cell?_of_block (hb.block _ (by rw [Bit.add_block]; exact hA ad e))
def mayS (n : Nat) (L : List Int) : Int := if 120 < n then 2 else if ∀ x ∈ L, -32767 ≤ x ∧ x ≤ 32767 then 0 else 1
theorem mayS_ok {n : Nat} {L : List Int} : mayS n L = 0 ↔ n ≤ 120 ∧ ∀ x ∈ L, -32767 ≤ x ∧ x ≤ 32767 := by
  unfold mayS
  constructor
  · intro h
    split at h
    · cases h
    · split at h
      · exact ⟨by omega, by assumption⟩
      · cases h
  · rintro ⟨h1, h2⟩
    rw [if_neg (by omega), if_pos h2]
set_option maxRecDepth 100000 in
set_option maxHeartbeats 1000000 in
theorem put_bad (p : Option Addr) (A : Option Addr) (n c : Nat) (L : List Int) (w : World) (hr : ReadsInt w .i64 A n L) (hm : mayS n L ≠ 0) :
    Calls Try.prog 34 #[.pointer p, .slice A n c] w fun e w' => e = .returned (.int .i64 (mayS n L)) ∧ Below w.heap.size w w' := by
  have HM := Lib.hid (fun W (hW : ReadsInt W .i64 A n L) => may_any A n c L W hW)
  change Hid (∀ W, ReadsInt W .i64 A n L → Calls Try.prog 54 #[.slice A n c] W fun e w' => e = .returned (.int .i64 (mayS n L)) ∧ w' = W) at HM
  generalize mayS n L = E at HM hm
  have hE : (E != 0) = true := bne_iff_ne.2 hm
  have HR := Lib.hid (fun o => hr.allocS o)
  clear hr hm
  go_enter Try.func34, Try.ntmps34
  go_wp2_with (go_at_call 54; refine (HM.out _ (HR.out _)).mono ?_; rintro e w1 ⟨rfl, hw1⟩; have HW := Lib.hid hw1; clear hw1)
  go_ret
  exact ⟨rfl, by rw [HW.out]; exact ba (br w) _⟩
set_option maxRecDepth 100000 in
set_option maxHeartbeats 2000000 in
theorem put_good (g : Nat) (s : St) (v : Value) (A : Option Addr) (n c : Nat) (L : List Int) (w : World) (h : CS w g s false v) (hs : Ari.Rest s) (ho : offOf s = none) (hr : ReadsInt w .i64 A n L) (hc : n ≤ c) (hA : 0 < n → ∀ ad, A = some ad → ad.block < g) (hm : mayS n L = 0) (hn : Q.steps s + 14 * (40 * n + 100) ≤ 1000000) :
    Calls Try.prog 34 #[.pointer (some ⟨g, 0, none⟩), .slice A n c] w fun e w' => e = .returned (.int .i64 0) ∧ ∃ s' v', Q.Enc (symsQ L n) s s' ∧ Ari.Rest s' ∧ offOf s' = none ∧ CS w' g s' false v' ∧ Fr g v v' w w' := by
  have HM := Lib.hid (fun W (hW : ReadsInt W .i64 A n L) => may_any A n c L W hW)
  change Hid (∀ W, ReadsInt W .i64 A n L → Calls Try.prog 54 #[.slice A n c] W fun e w' => e = .returned (.int .i64 (mayS n L)) ∧ w' = W) at HM
  rw [hm] at HM
  obtain ⟨hn120, hbL⟩ := mayS_ok.1 hm
  have hlen : L.length = n := hr.1
  have HLEN := Lib.hid hlen
  have HBL := Lib.hid hbL
  have HR := Lib.hid hr
  have HAA := Lib.hid hA
  have HS := Lib.hid hs
  have hgl : g < w.heap.size := blk_lt h.at_
  have HSL : Hid (∀ i, i ≤ n → (symsQ L i).length ≤ 40 * i) := fun i hi => symsQ_len L hbL i (by rw [hlen]; exact hi)
  have HA0 : Hid (∀ o, o = Obj.cells #[.pointer (some ⟨g, 0, none⟩)] 25 → Adv w g w.heap.size v s [] (w.alloc o)) := fun o hoo =>
    ⟨s, v, rfl, hs, ho, ⟨((ba (br w) o).block _ hgl).trans h.at_, pw_own_below h.own (ba (br w) o), h.free⟩, by rw [heap_alloc_new, hoo], by omega, fun e => by have := own_lt h.own _ e; omega, fr_below (ba (br w) o) hgl⟩
  clear h hs ho hr hA hm hbL hlen
  go_enter Try.func34, Try.ntmps34
  go_wp2_with (go_at_call 54; refine (HM.out _ (HR.out.allocS _)).mono ?_; rintro e w1 ⟨rfl, hw1⟩; have HA1 : Hid (Adv w g w.heap.size v s [] w1) := (by rw [hw1]; exact HA0.out _ rfl); clear hw1)
  go_loopg [19] n (fun gk x W => ∃ i : Nat, i ≤ n ∧ gk = n - i ∧ x = .int .i64 i ∧ Hid (Adv w g w.heap.size v s (symsQ L i) W))
  case atStart => exact ⟨0, by omega, by omega, rfl, HA1⟩
  case round =>
    clear HA1
    obtain ⟨i, hi, rfl, rfl, HAi⟩ := hrel
    by_cases hlt : i < n
    · have HRW : Hid (ReadsInt wr .i64 A n L) := by
        obtain ⟨s', v', -, -, -, hcl⟩ := HAi.out
        exact reads_under HR.out (HAA.out (by omega)) hcl.fr.below
      obtain ⟨ad, hAd, y⟩ := HRW.out.at_ (i : Int) (by omega) (by omega)
      subst hAd
      rw [Int.toNat_natCast] at y
      have hiL : i < L.length := by rw [HLEN.out]; exact hlt
      have hx := HBL.out _ (List.getElem_mem hiL)
      rw [← rd_mem L i hiL] at hx
      obtain ⟨x, hxe⟩ : ∃ x, x = rd L (i : Int) := ⟨_, rfl⟩
      rw [← hxe] at y hx
      have hsl := HSL.out i (by omega)
      have HL := Lib.hid (line_put w g w.heap.size v s (symsQ L i) wr (some ad) i c (L.take i) HAi.out HS.out (by omega) (HRW.out.take_ i (by omega)) (by omega) (fun z hz => HBL.out z (List.mem_of_mem_take hz)) x hx)
      have HNX : Hid (symsQ L (i + 1) = symsQ L i ++ symsL (L.take i) x) := by show _ = _; rw [hxe]; rfl
      clear hx hxe hsl hiL HRW
      go_wp2_with (go_at_call 56; refine HL.out.mono ?_; rintro e w2 ⟨rfl, h2⟩; have HA2 := Lib.hid h2; clear h2)
      go_roundg (n - (i + 1))
      case measure => omega
      case rel => exact ⟨i + 1, by omega, rfl, by go_num, by rw [HNX.out]; exact HA2⟩
    · obtain rfl : i = n := by omega
      obtain ⟨s', v', k1, k2, k3, k4⟩ := HAi.out
      have HK := Lib.hid (And.intro k1 (And.intro k2 (And.intro k3 (And.intro k4.c k4.fr))))
      clear k1 k2 k3 k4
      go_wp2
      go_ret
      exact ⟨rfl, s', v', HK.out.1, HK.out.2.1, HK.out.2.2.1, HK.out.2.2.2.1, HK.out.2.2.2.2⟩
end Go.Proofs.Ytikjolinendfgaa.Spe
namespace Go.Proofs.Ytikjolinendfgaa.Spe
open Go.RowKit Go.Proofs.YtikjolinendfgaaW.PrintWords Go.Proofs.YtikjolinendfgaaW.PrintLast Go.Proofs.YtikjolinendfgaaW.PrintMore Go.Proofs.Ytikjolinendfgaa.Bit Go.Proofs.Ytikjolinendfgaa.Ari

set_option maxRecDepth 100000 in
set_option maxHeartbeats 1000000 in
theorem cost_good (A : Option Addr) (n c : Nat) (L : List Int) (w : World) (hr : ReadsInt w .i64 A n L) (hc : n ≤ c) (hm : mayS n L = 0) :
    Calls Try.prog 33 #[.slice A n c] w fun e w' => (∃ s', Q.Enc (symsQ L n) s0 s' ∧ Q.steps s' ≤ 14 * (40 * n) ∧ e = .returned (.tuple #[.int .i64 (Q.steps s' + 2 : Nat), .int .i64 0])) ∧ Below w.heap.size w w' := by
  have HR := Lib.hid hr
  have hA : Hid (0 < n → ∀ ad, A = some ad → ad.block < w.heap.size) := fun h => M.reads_lt hr h
  have HMM := Lib.hid hm
  obtain ⟨hn120, hbL⟩ := mayS_ok.1 hm
  have hSL := symsQ_len L hbL n (by rw [hr.1]; exact Nat.le_refl _)
  have HSL := Lib.hid hSL
  have hs0 : Ari.Rest s0 ∧ offOf s0 = none ∧ Q.steps s0 = 0 := ⟨⟨by decide, by decide⟩, by decide, rfl⟩
  have HS0 := Lib.hid hs0
  clear hr hm hbL hSL hs0
  go_enter Try.func33, Try.ntmps33
  go_wp2_with (go_at_call 14; refine (newCoder_any _).mono ?_; rintro e w1 ⟨rfl, hc1, hb1⟩; have HC1 : Hid (CS w1 w.heap.size s0 false (.slice none 0 0)) := (by exact ⟨hc1.at_, World.ownsRow_nil _ _ _ _, fun _ _ => rfl⟩); have HB1 := Lib.hid hb1; clear hc1 hb1)
  refine (put_good w.heap.size s0 (.slice none 0 0) A n c L w1 HC1.out HS0.out.1 HS0.out.2.1 (HR.out.below HB1.out) hc hA.out HMM.out (by rw [HS0.out.2.2]; omega)).mono ?_
  rintro e w2 ⟨rfl, s', v', h1, h2, h3, h4, h5⟩
  have hst := enc_len h1 HS0.out.1
  rw [HS0.out.2.2] at hst
  have hst2 : Q.steps s' ≤ 14 * (40 * n) := by have := HSL.out; omega
  have HST := Lib.hid hst2
  have HK := Lib.hid (And.intro h1 (And.intro h4 h5))
  have HBN : Hid (s'.bits.length + s'.ow + 65536 < 100000000) := by show _ < _; unfold Q.steps at hst2; omega
  clear h1 h2 h3 h4 h5 hst hst2
  go_wp2_with (first
    | (go_at_call 20; refine (end_any w.heap.size s' v' _ HK.out.2.1 HBN.out).mono ?_; rintro e w3 ⟨rfl, v3, h3, hf3⟩; have HE3 := Lib.hid h3; have HF3 := Lib.hid hf3; clear h3 hf3)
    | (go_at_call 22; refine (len_any w.heap.size (fin s') true v3 _ HE3.out).mono ?_; rintro e w4 ⟨rfl, rfl⟩))
  go_ret2
  have hfl : (fin s').bits.length = Q.steps s' + 2 := by unfold fin tellB Q.steps; simp; omega
  refine ⟨⟨s', HK.out.1, HST.out, by rw [hfl]; rfl⟩, (HB1.out.trans HK.out.2.2.below).trans HF3.out.below⟩
set_option maxRecDepth 100000 in
set_option maxHeartbeats 1000000 in
theorem cost_bad (A : Option Addr) (n c : Nat) (L : List Int) (w : World) (hr : ReadsInt w .i64 A n L) (hm : mayS n L ≠ 0) :
    Calls Try.prog 33 #[.slice A n c] w fun e w' => e = .returned (.tuple #[.int .i64 0, .int .i64 (mayS n L)]) ∧ Below w.heap.size w w' := by
  have HR := Lib.hid hr
  have HMM := Lib.hid hm
  obtain ⟨E, hE⟩ : ∃ E, E = mayS n L := ⟨_, rfl⟩
  have hE0 : (E != 0) = true := bne_iff_ne.2 (by rw [hE]; exact hm)
  have HE := Lib.hid hE
  rw [← hE]
  clear hr hm hE
  go_enter Try.func33, Try.ntmps33
  go_wp2_with (first
    | (go_at_call 14; refine (newCoder_any _).mono ?_; rintro e w1 ⟨rfl, hc1, hb1⟩; have HB1 := Lib.hid hb1; clear hc1 hb1)
    | (go_at_call 34; refine (put_bad _ A n c L _ (HR.out.below HB1.out) HMM.out).mono ?_; rw [← HE.out]; rintro e w2 ⟨rfl, hb2⟩; have HB2 := Lib.hid hb2; clear hb2))
  go_ret2
  exact ⟨rfl, bt HB1.out HB2.out⟩
/-! The symbols' run, reckoned. -/
def widF : Nat → St → St
  | 0, s => s
  | f + 1, s => match wstep s with
    | none => s
    | some t => widF f t
theorem widF_eq : ∀ {k f : Nat} {s t : St}, Ari.runN k s = some t → offOf t = none → k ≤ f → widF f s = t
  | 0, 0, s, t, h, ho, _ => by simp only [Ari.runN, Option.some.injEq] at h; exact h
  | 0, f + 1, s, t, h, ho, _ => by
    simp only [Ari.runN, Option.some.injEq] at h
    subst h
    have e : wstep s = none := by unfold wstep; rw [ho]; rfl
    unfold widF
    rw [e]
  | k + 1, 0, s, t, h, ho, hk => by omega
  | k + 1, f + 1, s, t, h, ho, hk => by
    rw [Ari.runN_first] at h
    cases e : wstep s with
    | none => rw [e] at h; cases h
    | some u =>
      rw [e] at h
      unfold widF
      rw [e]
      exact widF_eq (k := k) h ho (by omega)
def encF : List (List Int × Nat) → St → St
  | [], s => s
  | (t, i) :: ds, s => encF ds (widF 16 (cut t i s))
theorem enc_eq : ∀ {ds : List (List Int × Nat)} {s s' : St}, Q.Enc ds s s' → Ari.Rest s → s' = encF ds s
  | [], s, s', h, hr => by obtain rfl : s = s' := h; rfl
  | (t, i) :: ds, s, s', h, hr => by
    obtain ⟨h1, h2, k, u, h3, h4⟩ := h
    have hc := cut_in h1 h2 hr
    have hk := Wid.few h3 hc.1 hc.2.1
    have hk16 : k ≤ 16 := Nat.le_trans hk (by decide)
    have e := widF_eq (f := 16) h3.1 h3.2 hk16
    show s' = encF ds (widF 16 (cut t i s))
    rw [e]
    exact enc_eq h4 (Wid.rest h3 hc.1)
theorem rest_s0 : Ari.Rest s0 := ⟨by decide, by decide⟩
theorem cost_nil (w : World) : Calls Try.prog 33 #[.slice none 0 0] w fun e w' => e = .returned (.tuple #[.int .i64 2, .int .i64 0]) ∧ Below w.heap.size w w' :=
  (cost_good none 0 0 [] w ⟨rfl, by decide, fun h => absurd h (by decide)⟩ (Nat.le_refl _) (by decide)).mono fun e w' ⟨⟨s', h1, _, h2⟩, h3⟩ => ⟨by
    have h4 : s' = s0 := (show s0 = s' from h1).symm
    rw [h2, h4]
    rfl, h3⟩
theorem cost4 (W : World) : Calls Try.prog 33 #[.slice (some ⟨W.heap.size, 0, none⟩) 4 4] (W.alloc (.cells #[.int .i64 3, .int .i64 (-40), .int .i64 0, .int .i64 1] 3)) fun e w' => (∃ M : Nat, 10 < M ∧ M ≤ 10000 ∧ e = .returned (.tuple #[.int .i64 M, .int .i64 0])) ∧ Below W.heap.size W w' :=
  (cost_good (some ⟨W.heap.size, 0, none⟩) 4 4 [3, -40, 0, 1] _ (lit_reads W [3, -40, 0, 1] (by decide)) (Nat.le_refl _) (by decide)).mono fun e w' ⟨⟨s', h1, h5, h2⟩, h3⟩ => ⟨⟨_, by
    rw [enc_eq h1 rest_s0]
    decide +kernel, by omega, h2⟩, bt (ba (br W) _) h3⟩
theorem cost1 (W : World) : Calls Try.prog 33 #[.slice (some ⟨W.heap.size, 0, none⟩) 1 1] (W.alloc (.cells #[.int .i64 40000] 3)) fun e w' => e = .returned (.tuple #[.int .i64 0, .int .i64 1]) ∧ Below W.heap.size W w' :=
  (cost_bad (some ⟨W.heap.size, 0, none⟩) 1 1 [40000] _ (lit_reads W [40000] (by decide)) (by decide)).mono fun e w' ⟨h2, h3⟩ => ⟨h2, bt (ba (br W) _) h3⟩
theorem last3 (W : World) : Calls Try.prog 36 #[.slice (some ⟨W.heap.size, 0, none⟩) 3 3] (W.alloc (.cells #[.int .i64 0, .int .i64 5, .int .i64 0] 3)) fun e w' => e = .returned (.int .i64 2) ∧ Below W.heap.size W w' :=
  (last_any (some ⟨W.heap.size, 0, none⟩) 3 3 [0, 5, 0] _ (lit_reads W [0, 5, 0] (by decide))).mono fun e w' ⟨h2, h3⟩ => ⟨h2, by rw [h3]; exact ba (br W) _⟩
set_option maxRecDepth 100000 in
set_option maxHeartbeats 1000000 in
theorem alive (w : World) : Calls Try.prog 32 #[] w fun e w' => e = .returned (.bool true) ∧ Below w.heap.size w w' := by
  go_enter Try.func32, Try.ntmps32
  go_wp2_with fail
  refine (cost_nil _).mono ?_
  rintro e w1 ⟨rfl, hb1⟩
  have HB1 := Lib.hid hb1
  clear hb1
  go_wp2_with fail
  refine (cost4 w1).mono ?_
  rintro e w2 ⟨⟨M, hM1, hM2, rfl⟩, hb2⟩
  have HB2 := Lib.hid (bt HB1.out hb2)
  have hMd : decide ((10 : Int) < (M : Int)) = true := decide_eq_true (by omega)
  clear hb2 hM1 hM2
  generalize (M : Int) = m at hMd ⊢
  go_wp2_with fail
  refine (cost1 w2).mono ?_
  rintro e w3 ⟨rfl, hb3⟩
  have HB3 := Lib.hid (bt HB2.out hb3)
  clear hb3
  go_wp2_with fail
  refine (last3 w3).mono ?_
  rintro e w4 ⟨rfl, hb4⟩
  have HB4 := Lib.hid (bt HB3.out hb4)
  clear hb4
  go_wp2
  go_ret
  exact ⟨rfl, HB4.out⟩
end Go.Proofs.Ytikjolinendfgaa.Spe
