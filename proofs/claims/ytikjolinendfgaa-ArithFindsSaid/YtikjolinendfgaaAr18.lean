/- Both finders side by side: their calls; the walk of the statement ArithNil. -/
import Derived.Test.YtikjolinendfgaaAr17
import Derived.Test.YtikjolinendfgaaOpen4
set_option linter.unusedVariables false
set_option linter.unusedSimpArgs false
namespace Go.Proofs.Ytikjolinendfgaa.Ari
open Go.RowKit Go.Proofs.YtikjolinendfgaaW.PrintWords Go.Proofs.YtikjolinendfgaaW.PrintLast Go.Proofs.YtikjolinendfgaaW.PrintMore Go.Proofs.Ytikjolinendfgaa.Bit

theorem vN_same {B : Nat → Nat} {L : List Int} {fr fr' : Nat} (hB : ∀ j, B (fr + j) = bD L (fr' + j)) : ∀ k, vN B fr k = vN (bD L) fr' k
  | 0 => rfl
  | k + 1 => by
    show 2 * vN B fr k + B (fr + k) = 2 * vN (bD L) fr' k + bD L (fr' + k)
    rw [vN_same hB k, hB k]
section
variable {w0 : World} {n f1 f2 : Nat} {ep : Option Addr} {fr : Nat} {B : Nat → Nat} {A : Option Addr} {c : Nat} {L : List Int} {fr' : Nat} {s : Fs} {W : World}
theorem Two.drew (h : Two w0 n f1 f2 ep fr B A c L fr' s W) : Two w0 n f1 f2 ep fr B A c L fr' s W.drew :=
  ⟨⟨h.base.os, h.base.tape, h.base.output, h.base.size, h.base.block⟩, h.n0, h.nf, h.ff, h.eye.of_blocks fun _ _ _ => rfl, h.g, h.m, h.bits.drewN 1, h.ne, h.rest⟩
theorem two_start {w1 w2 w3 w4 : World} {v v' : Nat} (hb1 : Below w0.heap.size w0 w1) (hn0 : w0.heap.size ≤ n) (hn : n ≤ w1.heap.size) (he : EyeL w1 n ep B) (hF : Fn w1.heap.size ep fr B w1 0 65535 16 v w2) (hlt : w1.heap.size < w2.heap.size) (hb3 : Below w2.heap.size w2 w3)
    (hR : RF w3.heap.size A c L w3 0 65536 v' (fr' + 16) 16 w4) (hne : ∀ ad, A = some ad → w2.heap.size ≤ ad.block ∧ ad.block < w3.heap.size) (hv : v = v') (hv2 : v < 65536) : Two w0 n w1.heap.size w3.heap.size ep fr B A c L fr' ⟨0, 65536, v, 16⟩ w4 := by
  subst hv
  have h1 : w0.heap.size ≤ w1.heap.size := hb1.size
  have h2 := hb3.size
  have hne13 : w1.heap.size ≠ w3.heap.size := by omega
  have hlt13 : w1.heap.size < w3.heap.size := by omega
  have b2 : Below w0.heap.size w0 w2 := below_only hb1 hF.only h1
  have b3 : Below w0.heap.size w0 w3 := b2.trans (hb3.mono (by omega))
  have b4 : Below w0.heap.size w0 w4 := below_only b3 hR.only (by omega)
  have e2 := he.only hF.only hn
  have e3 : EyeL w3 n ep B := e2.of_blocks fun k hk _ => hb3.block k (by omega)
  have e4 := e3.only hR.only (by omega)
  have g3 : FnAt w3 w1.heap.size 0 65535 ep fr 16 v := (hb3.block _ hlt).trans hF.at_
  have g4 : FnAt w4 w1.heap.size ((0 : Nat) : Int) (((0 : Nat) : Int) + ((65536 : Nat) : Int) - 1) ep fr 16 v := by
    rw [show (((0 : Nat) : Int) + ((65536 : Nat) : Int) - 1) = 65535 from by omega]
    exact only_at hR.only g3 hne13
  exact ⟨b4, hn0, hn, hlt13, e4, g4, hR.at_, hR.bits, fun ad e => ⟨(hne ad e).2, by have := (hne ad e).1; omega⟩, rest0 hv2⟩
/-- a table in memory -/
def TabAt (W : World) (A : Option Addr) (c : Nat) (t : List Int) : Prop := ReadsInt W .i64 A t.length t ∧ t.length ≤ c ∧ ∀ x ∈ t, -9223372036854775808 ≤ x ∧ x ≤ 9223372036854775807
theorem Two.gno {A' : Option Addr} {c' : Nat} {t : List Int} (h : Two w0 n f1 f2 ep fr B A c L fr' s W) (hr : TabAt w0 A' c' t) (hg : ¬ Good t) :
    Calls Try.prog 27 #[.pointer (some ⟨f1, 0, none⟩), .slice A' t.length c'] W fun e w' => e = .returned (.tuple #[.int .i64 0, .int .i64 1]) ∧ Two w0 n f1 f2 ep fr B A c L fr' s w' :=
  (get_no f1 A' t.length c' t W (hr.1.below h.base) hr.2.2 hg).mono fun e w' ⟨h1, k, h2⟩ => ⟨h1, by rw [h2]; exact h.drewN k⟩
theorem Two.mno {A' : Option Addr} {c' : Nat} {t : List Int} (h : Two w0 n f1 f2 ep fr B A c L fr' s W) (hr : TabAt w0 A' c' t) (hg : ¬ Good t) :
    Calls Try.prog 28 #[.pointer (some ⟨f2, 0, none⟩), .slice A' t.length c'] W fun e w' => e = .returned (.tuple #[.int .i64 0, .int .i64 1]) ∧ Two w0 n f1 f2 ep fr B A c L fr' s w' :=
  (rget_no f2 A' t.length c' t W (hr.1.below h.base) hr.2.2 hg).mono fun e w' ⟨h1, k, h2⟩ => ⟨h1, by rw [h2]; exact h.drewN k⟩
theorem Two.gok {A' : Option Addr} {c' : Nat} {t : List Int} (h : Two w0 n f1 f2 ep fr B A c L fr' s W) (hr : TabAt w0 A' c' t) (hg : Good t) (h1 : fr ≤ 100000000) (h2 : s.rd ≤ 1000000) :
    Calls Try.prog 27 #[.pointer (some ⟨f1, 0, none⟩), .slice A' t.length c'] W fun e w' => ∃ i : Nat, e = .returned (.tuple #[.int .i64 i, .int .i64 0]) ∧ Got f1 ep fr B W s t i w' ∧ Below w0.heap.size w0 w' :=
  (get_ok f1 ep fr B W s A' t.length c' t W h.fs h.rest.1 (hr.1.below h.base) hr.2.1 hr.2.2 hg h1 h2 (fun ad e => by
    have h3 := reads_lt hr.1 (by have := hg.1; omega) ad e
    have h4 := h.n0
    have h5 := h.nf
    omega)).mono fun e w' ⟨i, k1, k2⟩ => ⟨i, k1, k2, by
      obtain ⟨-, -, -, k, s', -, -, k6⟩ := k2
      exact below_only h.base k6.only (by have := h.n0; have := h.nf; omega)⟩
theorem Two.mok {A' : Option Addr} {c' : Nat} {t : List Int} {i : Nat} {W' : World} (h : Two w0 n f1 f2 ep fr B A c L fr' s W) (hG : Got f1 ep fr B W s t i W') (hr : TabAt w0 A' c' t) (hg : Good t) (h1 : fr' ≤ 10000000) (h2 : s.rd ≤ 1000000) (hL : ∀ x ∈ L, 0 ≤ x ∧ x ≤ 1) (hB : ∀ j, B (fr + j) = bD L (fr' + j)) :
    Calls Try.prog 28 #[.pointer (some ⟨f2, 0, none⟩), .slice A' t.length c'] W' fun e w' => e = .returned (.tuple #[.int .i64 i, .int .i64 0]) ∧ i < t.length ∧ ∃ s', s'.rd ≤ s.rd + 14 ∧ Two w0 n f1 f2 ep fr B A c L fr' s' w' := by
  have hG0 := hG
  obtain ⟨-, -, -, k, s', -, -, k6⟩ := hG0
  have hb : Below w0.heap.size w0 W' := below_only h.base k6.only (by have := h.n0; have := h.nf; omega)
  refine (rget_ok f2 A c L W' fr' s A' t.length c' t W' (h.mid k6) hL h.rest.1 (hr.1.below hb) hr.2.1 hr.2.2 hg h1 h2 (fun ad e => by
    have h3 := reads_lt hr.1 (by have := hg.1; omega) ad e
    have h4 := h.n0
    have h5 := h.nf
    have h6 := h.ff
    omega)).mono fun e w' ⟨i', k1, k2⟩ => ?_
  obtain ⟨e1, e2, e3⟩ := h.next hG k2 hg hB
  subst e1
  exact ⟨k1, e2, e3⟩
end
theorem far_not {l : List Sy} (h : farB l = false) : l.length ≤ 200 ∧ ∀ i (hi : i < l.length), l[i].tb.length ≤ 100 := by
  unfold farB at h
  rw [Bool.or_eq_false_iff, decide_eq_false_iff_not, List.any_eq_false] at h
  refine ⟨by omega, fun i hi => ?_⟩
  have := h.2 _ (List.getElem_mem hi)
  simp at this
  omega
set_option maxRecDepth 100000 in
set_option maxHeartbeats 2000000 in
theorem nil_walk (A : Option Addr) (c : Nat) (l : List Sy) (w : World) (h : Ones w A l) :
    Calls Try.prog 4 #[.slice A l.length c] w fun e w' => e = .returned (.bool true) ∧ Below w.heap.size w w' := by
  have HO := Lib.hid h
  have hlen := h.1
  obtain ⟨fb, hfb⟩ : ∃ fb, farB l = fb := ⟨_, rfl⟩
  clear h
  go_enter Try.func4, Try.ntmps4
  go_wp2_with (first
    | (go_at_call 12; refine (alive _).mono ?_; rintro e w1 ⟨rfl, hb1⟩)
    | (go_at_call 25; refine (newFinder_any none (fun _ => 0) 0 0 rfl (by omega) _ (.inl ⟨rfl, fun _ => rfl⟩)).mono ?_; rintro e w2 ⟨rfl, hF, hlt⟩; have HF := Lib.hid hF; clear hF)
    | (go_at_call 26; refine (rnewFinder_any none 0 [] 0 0 rfl (by omega) _ ⟨rfl, by decide, fun h => absurd h (by decide)⟩ (fun ad e => by cases e) (fun x hx => by cases hx)).mono ?_; rintro e w3 ⟨rfl, hR, hlt3⟩; have HR := Lib.hid hR; clear hR hlt3))
  have HB : Hid (∀ j, (fun _ : Nat => 0) (0 + j) = bD [] (0 + j)) := fun j => rfl
  have HT : Hid (Two w w1.heap.size w1.heap.size w2.heap.size none 0 (fun _ => 0) none 0 [] 0 ⟨0, 65536, vN (fun _ => 0) 0 16, 16⟩ w3) :=
    two_start hb1 hb1.size (Nat.le_refl _) (.inl ⟨rfl, fun _ => rfl⟩) HF.out hlt (Below.refl _ _) HR.out (fun ad e => by cases e) (vN_same HB.out 16) (vN_lt (fun _ => by decide) 16)
  generalize w1.heap.size = f1 at HT HF ⊢
  generalize hv : vN (fun _ : Nat => 0) 0 16 = v at HT
  clear HF HR hv
  go_loopg [7] l.length (fun gk x W => ∃ (i : Nat) (s : Fs), i ≤ l.length ∧ gk = l.length - i ∧ x = .int .i64 i ∧ s.rd ≤ 16 + 14 * i ∧ Hid (Two w f1 f1 w2.heap.size none 0 (fun _ => 0) none 0 [] 0 s W))
  case atStart => exact ⟨0, _, by omega, rfl, rfl, Nat.le_refl _, HT⟩
  case round =>
    obtain ⟨i, s, hi, rfl, rfl, hs, HTr⟩ := hrel
    by_cases hlt : i < l.length
    · have HOr := Lib.hid (HO.out.below HTr.out.base)
      cases fb with
      | true =>
        go_wp2_with (first
          | (go_at_call 13; refine (far_any A c l _ HOr.out).mono ?_; rintro e w4 ⟨rfl, rfl⟩; rw [hfb])
          | (go_at_call 20; refine (end_nil _).mono ?_; rintro e w5 ⟨rfl, rfl⟩)
          | (go_at_call 22; refine (len_nil _).mono ?_; rintro e w6 ⟨rfl, rfl⟩)
          | (go_at_call 23; refine (bits_nil _).mono ?_; rintro e w7 ⟨rfl, rfl⟩)
          | (go_at_call 29; refine (read_nil _).mono ?_; rintro e w8 ⟨rfl, rfl⟩))
        go_ret
        exact ⟨rfl, HTr.out.base⟩
      | false =>
        obtain ⟨hl2, htb⟩ := far_not hfb
        obtain ⟨ad, rfl, y0, y1, hr, hcap, hbd⟩ := HO.out.2 i hlt
        have ht2 := htb i hlt
        generalize l[i] = si at y0 y1 hr hcap hbd ht2
        have HTab : Hid (TabAt w si.ad si.cap si.tb) := ⟨hr, hcap, hbd⟩
        have z0 := cell_below HTr.out.base y0
        clear hr hcap hbd htb
        by_cases hg : Good si.tb
        · have HG := Lib.hid hg
          clear hg
          go_wp2_with (go_at_call 13; refine (far_any (some ad) c l _ HOr.out).mono ?_; rintro e w4 ⟨rfl, rfl⟩; rw [hfb])
          refine (get_nil _ _).mono ?_
          rintro e w5 ⟨rfl, k5, rfl⟩
          have HT5 := Lib.hid (HTr.out.drewN k5)
          have z5 := cell_below HT5.out.base y0
          go_wp2_with fail
          refine (Two.gok HT5.out HTab.out HG.out (by omega) (by omega)).mono ?_
          rintro e w6 ⟨q, rfl, hG6, hb6⟩
          have HG6 := Lib.hid hG6
          have z6 := cell_below hb6 y0
          clear hb6 hG6
          go_wp2_with fail
          refine (Two.mok HT5.out HG6.out HTab.out HG.out (by omega) (by omega) (fun x hx => by cases hx) HB.out).mono ?_
          rintro e w7 ⟨rfl, -, s', hs', h7⟩
          have HT7 := Lib.hid h7
          have z7 := cell_below h7.base y0
          have z7' := cell_below h7.base y1
          clear h7 z0 z5 z6 y0 y1
          go_wp2
          go_quiet ((go_at_call 18; exact Calls.quiet_of_same (put_nil _ _ _)))
          go_wp2
          go_roundg (l.length - (i + 1))
          case measure => omega
          case rel => exact ⟨i + 1, s', by omega, rfl, by go_num, by omega, by first | exact HT7 | exact HT7.out.drew | exact HT7.out.drewN _⟩
        · have HG := Lib.hid hg
          clear hg
          go_wp2_with (go_at_call 13; refine (far_any (some ad) c l _ HOr.out).mono ?_; rintro e w4 ⟨rfl, rfl⟩; rw [hfb])
          refine (get_nil _ _).mono ?_
          rintro e w5 ⟨rfl, k5, rfl⟩
          have HT5 := Lib.hid (HTr.out.drewN k5)
          have z5 := cell_below HT5.out.base y0
          go_wp2_with fail
          refine (Two.gno HT5.out HTab.out HG.out).mono ?_
          rintro e w6 ⟨rfl, h6⟩
          have HT6 := Lib.hid h6
          have z6 := cell_below h6.base y0
          clear h6
          go_wp2_with fail
          refine (Two.mno HT6.out HTab.out HG.out).mono ?_
          rintro e w7 ⟨rfl, h7⟩
          have HT7 := Lib.hid h7
          have z7 := cell_below h7.base y0
          have z7' := cell_below h7.base y1
          clear h7 z0 z5 z6 y0 y1
          go_wp2
          go_quiet ((go_at_call 18; exact Calls.quiet_of_same (put_nil _ _ _)))
          go_wp2
          go_roundg (l.length - (i + 1))
          case measure => omega
          case rel => exact ⟨i + 1, s, by omega, rfl, by go_num, by omega, by first | exact HT7 | exact HT7.out.drew | exact HT7.out.drewN _⟩
    · go_wp2_with (first
          | (go_at_call 20; refine (end_nil _).mono ?_; rintro e w5 ⟨rfl, rfl⟩)
          | (go_at_call 22; refine (len_nil _).mono ?_; rintro e w6 ⟨rfl, rfl⟩)
          | (go_at_call 23; refine (bits_nil _).mono ?_; rintro e w7 ⟨rfl, rfl⟩)
          | (go_at_call 29; refine (read_nil _).mono ?_; rintro e w8 ⟨rfl, rfl⟩))
      go_ret
      exact ⟨rfl, HTr.out.base⟩
/-- what a row's opening gives, as symbols of tables -/
theorem ones_of {w : World} {A : Option Addr} {len c : Nat} (xs : List (RowZ × Int)) (hl : xs.length = len) (hx : ∀ i (hi : i < xs.length), ∃ ad, A = some ad ∧ w.cell? (ad.add (i * 2)) = some (.slice xs[i].1.ad xs[i].1.len xs[i].1.cap) ∧ w.cell? ⟨(ad.add (i * 2)).block, (ad.add (i * 2)).off + 1, none⟩ = some (.int .i64 xs[i].2) ∧ xs[i].1.Is .i64 w)
    (hc : len ≤ c) (hm : c ≤ maxLen) : ∃ l : List Sy, l.length = len ∧ Ones w A l := by
  refine ⟨xs.map fun q => ⟨q.1.ad, q.1.cap, q.1.zs.take q.1.len, q.2⟩, by simpa using hl, ⟨by unfold maxLen at hm; simp; omega, fun i hi => ?_⟩⟩
  rw [List.length_map] at hi
  obtain ⟨ad, e, h1, h2, h3⟩ := hx i hi
  simp only [List.getElem_map]
  generalize xs[i] = q at h1 h2 h3
  rcases h3 with ⟨e1, e2, e3, e4⟩ | ⟨x, e1, k1, k2, k3, k4, k5⟩
  · rw [e1, e2, e3] at h1
    rw [e1, e2, e3, e4]
    exact ⟨ad, e, h1, h2, ⟨rfl, by decide, fun h => absurd h (by decide)⟩, Nat.le_refl _, fun x hx => by cases hx⟩
  · have hlen : (q.1.zs.take q.1.len).length = q.1.len := by rw [List.length_take]; omega
    unfold maxLen at k2
    refine ⟨ad, e, by rw [hlen]; exact h1, h2, ⟨rfl, by rw [hlen]; omega, fun _ => ⟨x, e1, fun j hj => ?_⟩⟩, by rw [hlen]; exact k1, fun y hy => ?_⟩
    · rw [hlen] at hj
      rw [k4 j (by omega)]
      congr 2
      rw [List.getD_eq_getElem?_getD, List.getD_eq_getElem?_getD, List.getElem?_take, if_pos hj]
    · have h5 : IntKind.i64.min ≤ y ∧ y ≤ IntKind.i64.max := by simpa [Lit.wf] using k5 y (List.mem_of_mem_take hy)
      exact h5
theorem nil_of {w : World} {A : Option Addr} {len c : Nat} (xs : List (RowZ × Int)) (hl : xs.length = len) (hx : ∀ i (hi : i < xs.length), ∃ ad, A = some ad ∧ w.cell? (ad.add (i * 2)) = some (.slice xs[i].1.ad xs[i].1.len xs[i].1.cap) ∧ w.cell? ⟨(ad.add (i * 2)).block, (ad.add (i * 2)).off + 1, none⟩ = some (.int .i64 xs[i].2) ∧ xs[i].1.Is .i64 w)
    (hc : len ≤ c ∧ c ≤ maxLen) : Calls Try.prog 4 #[.slice A len c] w fun e w' => e = .returned (.bool true) ∧ Below w.heap.size w w' := by
  obtain ⟨l, rfl, h⟩ := ones_of xs hl hx hc.1 hc.2
  exact nil_walk A c l w h
end Go.Proofs.Ytikjolinendfgaa.Ari
