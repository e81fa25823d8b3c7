/- The walk of the statement ArithFinds. -/
import Derived.Test.YtikjolinendfgaaAr19
import Derived.Test.YtikjolinendfgaaPadC
set_option linter.unusedVariables false
set_option linter.unusedSimpArgs false
namespace Go.Proofs.Ytikjolinendfgaa.Ari
open Go.RowKit Go.Proofs.YtikjolinendfgaaW.PrintWords Go.Proofs.YtikjolinendfgaaW.PrintLast Go.Proofs.YtikjolinendfgaaW.PrintMore Go.Proofs.Ytikjolinendfgaa.Bit

/-- where the program's finder begins -/
def frA (x : Int) : Nat := if x < 0 then 0 else if 4096 < x then 4096 else x.toNat
/-- where the document's finder begins -/
def frD (x : Int) : Nat := if x < 0 then 0 else if 1048576 < x then 1048576 else x.toNat
theorem frA_le (x : Int) : frA x ≤ 4096 := by unfold frA; split; omega; split <;> omega
theorem frD_le (x : Int) : frD x ≤ 1048576 := by unfold frD; split; omega; split <;> omega
theorem newFinder_gen (ep : Option Addr) (B : Nat → Nat) (x : Int) (w : World) (he : EyeP w w.heap.size ep B) :
    Calls Try.prog 25 #[.pointer ep, .int .i64 x] w fun e w' => e = .returned (.pointer (some ⟨w.heap.size, 0, none⟩)) ∧ Fn w.heap.size ep (frA x) B w 0 65535 16 (vN B (frA x) 16) w' ∧ w.heap.size < w'.heap.size := by
  rcases Int.lt_or_le x 0 with h | h
  · rw [show frA x = 0 from if_pos h]
    exact newFinder_any_low ep B x h w he
  · rcases Int.lt_or_le 4096 x with h2 | h2
    · rw [show frA x = 4096 from by unfold frA; rw [if_neg (by omega), if_pos h2]]
      exact newFinder_any_top ep B x h2 w he
    · rw [show frA x = x.toNat from by unfold frA; rw [if_neg (by omega), if_neg (by omega)]]
      exact newFinder_any ep B x x.toNat (by omega) (by omega) w he
theorem rnewFinder_gen (A : Option Addr) (c : Nat) (L : List Int) (x : Int) (w : World) (hb : ReadsInt w .i64 A L.length L) (hne : ∀ ad, A = some ad → ad.block < w.heap.size) (hL : ∀ x ∈ L, 0 ≤ x ∧ x ≤ 1) :
    Calls Try.prog 26 #[.slice A L.length c, .int .i64 x] w fun e w' => e = .returned (.pointer (some ⟨w.heap.size, 0, none⟩)) ∧ RF w.heap.size A c L w 0 65536 (vN (bD L) (frD x) 16) (frD x + 16) 16 w' ∧ w.heap.size < w'.heap.size := by
  rcases Int.lt_or_le x 0 with h | h
  · rw [show frD x = 0 from if_pos h]
    exact rnewFinder_any_low A c L x h w hb hne hL
  · rcases Int.lt_or_le 1048576 x with h2 | h2
    · rw [show frD x = 1048576 from by unfold frD; rw [if_neg (by omega), if_pos h2]]
      exact rnewFinder_any_top A c L x h2 w hb hne hL
    · rw [show frD x = x.toNat from by unfold frD; rw [if_neg (by omega), if_neg (by omega)]]
      exact rnewFinder_any A c L x x.toNat (by omega) (by omega) w hb hne hL
theorem bits_same (O : Nat → Bool) (n i : Nat) : (bitI O n (i : Int)).toNat = bD (bitsL O (8 * n)) i := by
  unfold bitI bD
  rcases Nat.lt_or_ge i (8 * n) with h | h
  · rw [if_pos (by omega), bitsL_at _ _ _ h]
    rfl
  · rw [if_neg (by omega), List.getD_eq_getElem?_getD, List.getElem?_eq_none (by rw [bitsL_length]; exact h)]
    rfl
theorem bD_zero {L : List Int} {i : Nat} (h : L.length ≤ i) : bD L i = 0 := by
  unfold bD
  rw [List.getD_eq_getElem?_getD, List.getElem?_eq_none h]
  rfl
theorem same_all (O : Nat → Bool) (n : Nat) (hn : n ≤ 512) (x : Int) : ∀ j, (fun i : Nat => (bitI O n (i : Int)).toNat) (frA x + j) = bD (bitsL O (8 * n)) (frD x + j) := by
  intro j
  show (bitI O n ((frA x + j : Nat) : Int)).toNat = _
  rw [bits_same]
  rcases Int.lt_or_le 4096 x with h | h
  · have e1 : 4096 ≤ frA x := by unfold frA; rw [if_neg (by omega), if_pos h]; omega
    have e2 : 4096 ≤ frD x := by unfold frD; rw [if_neg (by omega)]; split <;> omega
    rw [bD_zero (by rw [bitsL_length]; omega), bD_zero (by rw [bitsL_length]; omega)]
  · have e : frA x = frD x := by
      unfold frA frD
      rcases Int.lt_or_le x 0 with h2 | h2
      · rw [if_pos h2, if_pos h2]
      · rw [if_neg (by omega), if_neg (by omega), if_neg (by omega), if_neg (by omega)]
    rw [e]
theorem bitsL_01 (O : Nat → Bool) (n : Nat) : ∀ x ∈ bitsL O n, 0 ≤ x ∧ x ≤ 1 := by
  intro x hx
  unfold bitsL at hx
  obtain ⟨i, -, rfl⟩ := List.mem_map.1 hx
  have := toNat_le (O i)
  omega
theorem eye_l {W : World} {b n : Nat} {O : Nat → Bool} {A : Option Addr} {c : Nat} (h : EyeAt W b n 0 0 O A c) (hbl : ∀ ad, A = some ad → ad.block < b) (hn : n ≤ 512) : EyeL W W.heap.size (some ⟨b, 0, none⟩) (fun i => (bitI O n i).toNat) := by
  have hb := blk_lt h.at_
  refine .inr ⟨b, n, O, A, c, rfl, h, hb, fun ad e => by have := hbl ad e; omega, hn, fun i => ?_⟩
  show (((bitI O n i).toNat : Nat) : Int) = _
  have : 0 ≤ bitI O n i := by
    unfold bitI
    split
    · omega
    · decide
  omega
theorem two_m5 {w0 : World} {n f1 f2 : Nat} {ep : Option Addr} {fr : Nat} {B : Nat → Nat} {A : Option Addr} {c : Nat} {L : List Int} {fr' : Nat} {s : Fs} {W : World} (h : Two w0 n f1 f2 ep fr B A c L fr' s W) : W.cell? ⟨f2, 5, none⟩ = some (.int .i64 s.rd) := (blk_cell h.m 5).trans rfl
set_option maxRecDepth 100000 in
set_option maxHeartbeats 2000000 in
theorem finds_walk (A0 : Option Addr) (n0 c0 : Nat) (l0 : List Int) (x : Int) (A : Option Addr) (c : Nat) (l : List Sy) (w : World) (r0 : ReadsInt w .u8 A0 n0 l0) (hl0 : ∀ x ∈ l0, 0 ≤ x ∧ x ≤ 255) (y0 : n0 ≤ 140737488351232) (h : Ones w A l) :
    Calls Try.prog 6 #[.slice A0 n0 c0, .int .i64 x, .slice A l.length c] w fun e w' => e = .returned (.bool true) ∧ Below w.heap.size w w' := by
  have HO := Lib.hid h
  have HR0 := Lib.hid r0
  have hlen := h.1
  have hn0 : l0.length = n0 := r0.1
  have HN0 := Lib.hid hn0
  clear h r0 hn0
  cases hfb : farB l with
  | true =>
    go_enter Try.func6, Try.ntmps6
    go_wp2_with (first
      | (go_at_call 12; refine (alive _).mono ?_; rintro e w1 ⟨rfl, hb1⟩)
      | (go_at_call 13; refine (far_any A c l _ (HO.out.below hb1)).mono ?_; rintro e w4 ⟨rfl, rfl⟩; rw [hfb]))
    go_ret
    exact ⟨rfl, hb1⟩
  | false =>
    by_cases h0 : 512 < n0
    · go_enter Try.func6, Try.ntmps6
      go_wp2_with (first
        | (go_at_call 12; refine (alive _).mono ?_; rintro e w1 ⟨rfl, hb1⟩)
        | (go_at_call 13; refine (far_any A c l _ (HO.out.below hb1)).mono ?_; rintro e w4 ⟨rfl, rfl⟩; rw [hfb]))
      go_ret
      exact ⟨rfl, hb1⟩
    obtain ⟨O, hO⟩ := bytes_bits l0 hl0
    have HOO := Lib.hid hO
    obtain ⟨hl2, htb⟩ := far_not hfb
    have HTB := Lib.hid htb
    clear hO hl0 htb
    have HS := Lib.hid (same_all O n0 (by omega) x)
    have HL01 := Lib.hid (bitsL_01 O (8 * n0))
    have hLl := bitsL_length O (8 * n0)
    go_enter Try.func6, Try.ntmps6
    go_wp2_with (first
      | (go_at_call 12; refine (alive _).mono ?_; rintro e w1 ⟨rfl, hb1⟩)
      | (go_at_call 13; refine (far_any A c l _ (HO.out.below hb1)).mono ?_; rintro e w2 ⟨rfl, rfl⟩; rw [hfb]))
    refine (open_yes A0 n0 c0 O _ (by omega) (by have h := HR0.out.below hb1; rw [← HOO.out, HN0.out] at h; exact h)).mono ?_
    rintro e w3 ⟨b, A', c', rfl, hE, hb3, hbs, hbl⟩
    have hEL := eye_l hE hbl (by omega)
    have HEL := Lib.hid hEL
    have hEP := hEL.p (Nat.le_refl _)
    have HB3 : Hid (Below w.heap.size w w3) := hb1.trans (hb3.mono hb1.size)
    clear hE hbs hbl hb3 hEL
    go_wp2_with fail
    refine (newFinder_gen _ _ x _ hEP).mono ?_
    rintro e w4 ⟨rfl, hF, hlt4⟩
    have HF := Lib.hid hF
    have HB4 : Hid (Below w.heap.size w w4) := below_only HB3.out hF.only HB3.out.size
    clear hF hEP
    go_wp2_with fail
    refine (rof_any A0 n0 c0 O _ (by omega) (by have h := HR0.out.below HB4.out; rw [← HOO.out, HN0.out] at h; exact h)).mono ?_
    rintro e w5 ⟨v5, rfl, hP, hb5⟩
    generalize hLL : bitsL O (8 * n0) = L at hLl HL01 HS
    rw [← hLl] at hP
    have hown := hP.own
    rw [hLl, hLL, ← hLl] at hown
    obtain ⟨A5, c5, rfl, -, hr5⟩ := own_reads_le hown
    have hne5 : ∀ ad, A5 = some ad → w4.heap.size ≤ ad.block ∧ ad.block < w5.heap.size := fun ad e => by
      rcases hown.2 with ⟨h1, -⟩ | ⟨g, cap, cur, h1, h2, h3, -⟩
      · injection h1 with h1; rw [e] at h1; cases h1
      · injection h1 with h1
        rw [e] at h1
        injection h1 with h1
        subst h1
        exact ⟨h2, blk_lt h3⟩
    have p0 := hP.c0
    have HR5 := Lib.hid hr5
    have HNE := Lib.hid hne5
    have HLl := Lib.hid hLl
    clear hP hown hr5 hne5 hLL hLl
    go_wp2_with fail
    refine (rnewFinder_gen A5 c5 L x _ HR5.out (fun ad e => (HNE.out ad e).2) HL01.out).mono ?_
    rintro e w6 ⟨rfl, hR, -⟩
    have HB : Hid (∀ j, (fun i : Nat => (bitI O n0 i).toNat) (frA x + j) = bD L (frD x + j)) := HS.out
    generalize hBe : (fun i : Nat => (bitI O n0 i).toNat) = B at HEL HF HB
    have HT : Hid (Two w w3.heap.size w3.heap.size w5.heap.size (some ⟨b, 0, none⟩) (frA x) B A5 c5 L (frD x) ⟨0, 65536, vN B (frA x) 16, 16⟩ w6) :=
      two_start HB3.out HB3.out.size (Nat.le_refl _) HEL.out HF.out hlt4 hb5 hR HNE.out (vN_same HB.out 16) (vN_lt (fun i => by have h := EyeP.le (HEL.out.p (Nat.le_refl _)) i; exact h) 16)
    generalize vN B (frA x) 16 = v16 at HT
    generalize hf1 : w3.heap.size = f1 at HT ⊢
    generalize hf2 : w5.heap.size = f2 at HT ⊢
    have hfa := frA_le x
    have hfd := frD_le x
    clear HF HEL HR5 HNE HS HB3 HB4 hb5 hb1 hBe hR p0 hf1 hf2 hlt4
    generalize frA x = fa at HT HB hfa
    generalize frD x = fd at HT HB hfd
    go_wp2
    go_loopg [11] l.length (fun gk x W => ∃ (i : Nat) (s : Fs), i ≤ l.length ∧ gk = l.length - i ∧ x = .int .i64 i ∧ s.rd ≤ 16 + 14 * i ∧ Hid (Two w f1 f1 f2 (some ⟨b, 0, none⟩) fa B A5 c5 L fd s W))
    case atStart => exact ⟨0, _, by omega, rfl, rfl, Nat.le_refl _, HT⟩
    case round =>
      obtain ⟨i, s, hi, rfl, rfl, hs, HTr⟩ := hrel
      clear HT
      by_cases hlt : i < l.length
      · obtain ⟨ad, rfl, y0, y1, hr, hcap, hbd⟩ := HO.out.2 i hlt
        have ht2 := HTB.out i hlt
        generalize l[i] = si at y0 y1 hr hcap hbd ht2
        have HTab : Hid (TabAt w si.ad si.cap si.tb) := ⟨hr, hcap, hbd⟩
        have z0 := cell_below HTr.out.base y0
        clear hr hcap hbd
        by_cases hg : Good si.tb
        · have HG := Lib.hid hg
          clear hg
          go_wp2_with fail
          refine (Two.gok HTr.out HTab.out HG.out (by omega) (by omega)).mono ?_
          rintro e w7 ⟨q, rfl, hG6, hb6⟩
          have HG6 := Lib.hid hG6
          have z6 := cell_below hb6 y0
          clear hb6 hG6
          go_wp2_with fail
          refine (Two.mok HTr.out HG6.out HTab.out HG.out (by omega) (by omega) HL01.out HB.out).mono ?_
          rintro e w8 ⟨rfl, -, s', hs', h7⟩
          have HT7 := Lib.hid h7
          have m5 := two_m5 h7
          have TR := fun i => read_any f1 _ fa B _ s' (w8.drewN i) (h7.drewN i).fs
          clear h7 z0 z6 y0 y1
          go_wp2
          go_quiet ((go_at_call 29; exact Calls.quiet_of_same (TR _)))
          go_wp2
          go_roundg (l.length - (i + 1))
          case measure => omega
          case rel => exact ⟨i + 1, s', by omega, rfl, by go_num, by omega, by first | exact HT7 | exact HT7.out.drew | exact HT7.out.drewN _⟩
        · have HG := Lib.hid hg
          clear hg
          go_wp2_with fail
          refine (Two.gno HTr.out HTab.out HG.out).mono ?_
          rintro e w7 ⟨rfl, h6⟩
          have HT6 := Lib.hid h6
          have z6 := cell_below h6.base y0
          clear h6
          go_wp2_with fail
          refine (Two.mno HT6.out HTab.out HG.out).mono ?_
          rintro e w8 ⟨rfl, h7⟩
          have HT7 := Lib.hid h7
          have m5 := two_m5 h7
          have TR := fun i => read_any f1 _ fa B _ s (w8.drewN i) (h7.drewN i).fs
          clear h7 z0 z6 y0 y1
          go_wp2
          go_quiet ((go_at_call 29; exact Calls.quiet_of_same (TR _)))
          go_wp2
          go_roundg (l.length - (i + 1))
          case measure => omega
          case rel => exact ⟨i + 1, s, by omega, rfl, by go_num, by omega, by first | exact HT7 | exact HT7.out.drew | exact HT7.out.drewN _⟩
      · go_wp2
        go_ret
        exact ⟨rfl, HTr.out.base⟩
theorem finds_of {w : World} {A0 : Option Addr} {n0 c0 : Nat} {x : Int} {A : Option Addr} {len c : Nat} (xs : List (RowZ × Int)) (h0 : ∃ l : List Int, l.length = n0 ∧ ReadsInt w .u8 A0 n0 l ∧ (∀ x ∈ l, 0 ≤ x ∧ x ≤ 255) ∧ n0 ≤ c0) (y0 : n0 * 1 ≤ 140737488351232)
    (hl : xs.length = len) (hx : ∀ i (hi : i < xs.length), ∃ ad, A = some ad ∧ w.cell? (ad.add (i * 2)) = some (.slice xs[i].1.ad xs[i].1.len xs[i].1.cap) ∧ w.cell? ⟨(ad.add (i * 2)).block, (ad.add (i * 2)).off + 1, none⟩ = some (.int .i64 xs[i].2) ∧ xs[i].1.Is .i64 w)
    (hc : len ≤ c ∧ c ≤ maxLen) : Calls Try.prog 6 #[.slice A0 n0 c0, .int .i64 x, .slice A len c] w fun e w' => e = .returned (.bool true) ∧ Below w.heap.size w w' := by
  obtain ⟨l, rfl, h⟩ := ones_of xs hl hx hc.1 hc.2
  obtain ⟨l0, e, hr, hb, -⟩ := h0
  exact finds_walk A0 n0 c0 l0 x A c l w hr hb (by omega) h
end Go.Proofs.Ytikjolinendfgaa.Ari
