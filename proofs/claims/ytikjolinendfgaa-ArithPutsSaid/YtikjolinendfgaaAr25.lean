/- The walk of the statement ArithPuts. -/
import Derived.Test.YtikjolinendfgaaAr24
set_option linter.unusedVariables false
set_option linter.unusedSimpArgs false
namespace Go.Proofs.Ytikjolinendfgaa.Ari
open Go.RowKit Go.Proofs.YtikjolinendfgaaW.PrintWords Go.Proofs.YtikjolinendfgaaW.PrintLast Go.Proofs.YtikjolinendfgaaW.PrintMore Go.Proofs.Ytikjolinendfgaa.Bit

section
variable {w0 : World} {g m : Nat} {s s' : St} {en en' : Bool} {v v' vm vm' : Value} {W W' : World}
theorem Bo.drew (h : Bo w0 g m s en v vm W) : Bo w0 g m s en v vm W.drew := ⟨⟨h.base.os, h.base.tape, h.base.output, h.base.size, h.base.block⟩, h.hg, h.gm, CoAt.drew h.c, h.r.drew, h.a1, h.a3, h.rest⟩
theorem Tab.drew {A : Option Addr} {c : Nat} {t : List Int} (h : Tab W g v A c t) : Tab W.drew g v A c t := ⟨h.rd.drewN 1, h.cap, h.in_, h.far⟩
end
theorem tab_of {wr w4 : World} {w0 : World} {g m : Nat} {s : St} {en : Bool} {v vm : Value} {A : Option Addr} {c : Nat} {t : List Int} (h : Bo w0 g m s en v vm wr) (hown : w4.ownsRow wr.heap.size 3 1 (.slice A t.length c) t.length (nums .i64 t)) (hc : t.length ≤ c)
    (hb : ∀ x ∈ t, -9223372036854775808 ≤ x ∧ x ≤ 9223372036854775807) : Tab w4 g v A c t := by
  refine ⟨own_reads' hown, hc, hb, fun ad e => ?_⟩
  subst e
  have h1 := own_base hown ad.block rfl
  have h2 := own_lt hown ad.block rfl
  have h3 := blk_lt h.c.at_
  refine ⟨by omega, fun e => ?_, h2⟩
  have := own_lt h.c.own _ e.symm
  omega
set_option maxRecDepth 100000 in
set_option maxHeartbeats 16000000 in
theorem puts_walk (A : Option Addr) (c : Nat) (l : List Sy) (N : Nat) (w : World) (hN : N < 256) (h : Ones w A l) :
    Calls Try.prog 3 #[.slice A l.length c, .int .u8 N] w fun e w' => e = .returned (.bool true) ∧ Below w.heap.size w w' := by
  have HO := Lib.hid h
  have hlen := h.1
  clear h
  cases hfb : farB l with
  | true =>
    go_enter Try.func3, Try.ntmps3
    go_wp2_with (first
      | (go_at_call 12; refine (alive _).mono ?_; rintro e w1 ⟨rfl, hb1⟩)
      | (go_at_call 13; refine (far_any A c l _ (M.ones_below HO.out hb1)).mono ?_; rintro e w4 ⟨rfl, rfl⟩; rw [hfb]))
    go_ret
    exact ⟨rfl, hb1⟩
  | false =>
    obtain ⟨hl2, htb⟩ := M.far_not hfb
    have HTB := Lib.hid htb
    clear htb
    go_enter Try.func3, Try.ntmps3
    go_wp2_with (first
      | (go_at_call 12; refine (alive _).mono ?_; rintro e w1 ⟨rfl, hb1⟩)
      | (go_at_call 13; refine (far_any A c l _ (M.ones_below HO.out hb1)).mono ?_; rintro e w2 ⟨rfl, rfl⟩; rw [hfb])
      | (go_at_call 14; refine (newCoder_any _).mono ?_; rintro e w3 ⟨rfl, hc3, hb3⟩; have HC3 := Lib.hid hc3; have HB3 := Lib.hid hb3; clear hc3 hb3)
      | (go_at_call 15; refine (rnewCoder_any _).mono ?_; rintro e w4 ⟨rfl, hr4, hb4⟩; have HR4 := Lib.hid hr4; have HB4 := Lib.hid hb4; clear hr4 hb4))
    have hg3 := blk_lt HC3.out.at_
    have HBo : Hid (Bo w w2.heap.size w3.heap.size s0 false (.slice none 0 0) (.slice none 0 0) w4) :=
      ⟨bt (bt hb1 HB3.out) HB4.out, hb1.size, hg3, ⟨(HB4.out.block _ hg3).trans HC3.out.at_, World.ownsRow_nil _ _ _ _, fun _ _ => rfl⟩, HR4.out, by simp [Value.ownBlock], fun b hb => by simp [Value.ownBlock] at hb, fun _ => ⟨by decide, by decide⟩⟩
    clear HC3 HB3 HR4 HB4 hb1 hg3
    generalize w2.heap.size = g at HBo ⊢
    generalize w3.heap.size = m at HBo ⊢
    go_loopg [7] l.length (fun gk x W => ∃ (i : Nat) (s : St) (en : Bool) (v vm : Value), i ≤ l.length ∧ gk = l.length - i ∧ x = .int .i64 i ∧ s.bits.length + s.ow ≤ 16 * i ∧ Hid (Bo w g m s en v vm W))
    case atStart => exact ⟨0, s0, false, _, _, by omega, rfl, rfl, by decide, HBo⟩
    case round =>
      obtain ⟨i, s, en, v, vm, hi, rfl, rfl, hs, HBr⟩ := hrel
      clear HBo
      have hn0 : s.bits.length + s.ow + 65536 < 100000000 := by omega
      have HN0 := Lib.hid hn0
      by_cases hlt : i < l.length
      · obtain ⟨ad, rfl, y0, y1, hr, hcap, hbd⟩ := HO.out.2 i hlt
        have ht2 := HTB.out i hlt
        generalize l[i] = si at y0 y1 hr hcap hbd ht2
        have z0 := M.cell_below HBr.out.base y0
        have x0 := fun o => pw_cell_below (ba (br wr) o) z0
        have hrr := hr.below HBr.out.base
        have HBD := Lib.hid hbd
        have HY1 := Lib.hid y1
        clear hr hcap hbd y1 hn0
        go_wp2_with (at_builtin; go_loud (refine print_append_row wr.heap.size rfl (.tmp 21) (.tmp 26) 29 3 .i64 8 rfl Try.underlying29 infoI (by decide) _ [] si.tb _ _ _ rfl rfl (own_emptyI wr) (hrr.below (ba (br wr) _)) (ba (br wr) _) (ba (br wr) _).size (by simp; omega) ?_); intro v1 w5 hown5 hB5 hg5 hat5)
        rw [List.nil_append] at hown5
        obtain ⟨A5, c5, rfl, hc5, hr5⟩ := own_reads_le hown5
        have HB5 := Lib.hid (HBr.out.kept hB5)
        have HT5 := Lib.hid (tab_of HBr.out hown5 hc5 HBD.out)
        have z1 := M.cell_below HB5.out.base HY1.out
        clear hown5 hB5 hg5 hat5 hc5 hr5 x0 z0 hrr y0
        have hbz : Hid (∀ W, ReadsInt W .i64 A5 si.tb.length si.tb → Calls Try.prog 16 #[.slice A5 si.tb.length c5] W fun e w' => e = .returned (.int .i64 (if Good si.tb then 0 else 1)) ∧ w' = W) := fun W hW => M.check_any A5 si.tb.length c5 si.tb W hW HBD.out
        have hbt : Hid (∀ W, ReadsInt W .i64 A5 si.tb.length si.tb → Calls Try.prog 17 #[.slice A5 si.tb.length c5] W fun e w' => e = .returned (.int .i64 (totalZ si.tb)) ∧ w' = W) := fun W hW => rtotal_any A5 si.tb.length c5 si.tb W hW HBD.out
        obtain ⟨CK, TZ, TB, hck, htz, hct, hct2⟩ : ∃ (CK TZ : Int) (TB : Bool), (if Good si.tb then (0 : Int) else 1) = CK ∧ totalZ si.tb = TZ ∧ (CK == 0) = TB ∧ decide (0 < TZ) = TB := by
          by_cases hg : Good si.tb
          · exact ⟨0, _, true, if_pos hg, rfl, rfl, decide_eq_true (by have := total_in hg; omega)⟩
          · exact ⟨1, _, false, if_neg hg, rfl, rfl, decide_eq_false (by have := total_not hg; omega)⟩
        rw [hck] at hbz
        rw [htz] at hbt
        clear hck htz
        obtain ⟨PE, hPE⟩ : ∃ PE, PE = putE en si.tb si.s := ⟨_, rfl⟩
        have HPE := Lib.hid hPE
        clear hPE
        go_region_held3 (fun w' => w'.cell? ⟨(ad.add (i * 2)).block, (ad.add (i * 2)).off + 1, none⟩ = some (.int .i64 si.s))
          (first | assumption | exact z1)
          (first
            | (go_at_call 16; refine (hbz.out _ (by first | exact HT5.out.rd | exact HT5.out.drew.rd)).mono ?_; rintro e w6 ⟨rfl, hw6⟩; have HB6 := Lib.hid (show Bo w g m s en v vm w6 from (by rw [hw6]; first | exact HB5.out | exact HB5.out.drew)); have HT6 := Lib.hid (show Tab w6 g v A5 c5 si.tb from (by rw [hw6]; first | exact HT5.out | exact HT5.out.drew)); have z2 := M.cell_below HB6.out.base HY1.out; clear hw6)
            | (go_at_call 17; refine (hbt.out _ HT6.out.rd).mono ?_; rintro e w7 ⟨rfl, hw7⟩; have HB7 := Lib.hid (show Bo w g m s en v vm w7 from (by rw [hw7]; exact HB6.out)); have HT7 := Lib.hid (show Tab w7 g v A5 c5 si.tb from (by rw [hw7]; exact HT6.out)); have z3 := M.cell_below HB7.out.base HY1.out; clear hw7)
            | (go_at_call 18; refine (Bo.putC HB7.out HT7.out HN0.out).mono ?_; rw [← HPE.out]; rintro e w8 ⟨rfl, s', v', hN8, hH8, hr8⟩; have HN8 := Lib.hid hN8; have HH8 := Lib.hid hH8; have HR8 := Lib.hid hr8; have z4 := M.cell_below hH8.base HY1.out; clear hN8 hH8 hr8)
            | (go_at_call 19; refine (Ha.putM HH8.out HN8.out HR8.out HBD.out HB7.out.rest HN0.out).mono ?_; rw [← HPE.out]; rintro e w9 ⟨rfl, hs9, vm', hB9⟩; have HB9 := Lib.hid hB9; have z5 := M.cell_below hB9.base HY1.out; clear hB9)
            | fail)
        clear HT5 HB5 HT6 HB6 HT7 HB7 HN8 HH8 HR8 z1 z2 z3 z4 z5 hbz hbt hct hct2 HN0 HBr HPE HBD HY1
        obtain ⟨q, hq⟩ : ∃ q, q = N % 64 := ⟨_, rfl⟩
        have hqI : (N : Int) % 64 = (q : Int) := by omega
        have hq64 : q < 64 := by omega
        clear hq
        have hn9 : s'.bits.length + s'.ow + 65536 < 100000000 := by omega
        have HN9 := Lib.hid hn9
        by_cases he : i = q
        case' pos =>
          subst he
          go_wp2_with (first
            | (go_at_call 20; refine (Bo.endC HB9.out HN9.out).mono ?_; rintro e w10 ⟨rfl, v10, h10⟩; have HH10 := Lib.hid h10; clear h10)
            | (go_at_call 21; refine (Ha.endM HH10.out HN9.out).mono ?_; rintro e w11 ⟨rfl, vm11, h11⟩; have HB11 := Lib.hid h11; clear h11))
          obtain ⟨wx, rfl⟩ : ∃ wx, wx = w11 := ⟨_, rfl⟩
          obtain ⟨sx, enx, vx, vmx, HX, hsx⟩ : ∃ sx enx vx vmx, Hid (Bo w g m sx enx vx vmx wx) ∧ sx.bits.length + sx.ow ≤ 16 * (i + 1) := ⟨_, _, _, _, HB11, by have := finS_sum en s'; omega⟩
          clear HB11 HH10 HB9
        case' neg =>
          have heI : ((i : Int) == (q : Int)) = false := beq_eq_false_iff_ne.2 (by omega)
          go_wp2
          obtain ⟨wx, rfl⟩ : ∃ wx, wx = w9 := ⟨_, rfl⟩
          obtain ⟨sx, enx, vx, vmx, HX, hsx⟩ : ∃ sx enx vx vmx, Hid (Bo w g m sx enx vx vmx wx) ∧ sx.bits.length + sx.ow ≤ 16 * (i + 1) := ⟨_, _, _, _, HB9, by omega⟩
          clear HB9
        all_goals
          have hbits : sx.bits.length ≤ 100000 := by omega
          have hbits2 : sx.bits.length < 100000000 := by omega
          obtain ⟨Am, cm, rfl⟩ : ∃ Am cm, vmx = .slice Am sx.bits.length cm := by
            obtain ⟨A, c, h, -⟩ := own_reads HX.out.r.own
            rw [bitsZ_len] at h
            exact ⟨A, c, h⟩
          have y4 : wx.cell? ⟨m, 4, none⟩ = some (.slice Am sx.bits.length cm) := HX.out.r.c4
          go_region_with
            (first
              | (go_at_call 22; refine (len_any g sx enx vx _ (by first | exact HX.out.c | exact CoAt.drew HX.out.c)).mono ?_; rintro e w12 ⟨rfl, hw12⟩; have HB12 := Lib.hid (show Bo w g m sx enx vx (.slice Am sx.bits.length cm) w12 from (by rw [hw12]; first | exact HX.out | exact HX.out.drew)); have z1 := HB12.out.r.c4; clear hw12)
              | (go_at_call 23; refine (bits_any g sx enx vx _ HB12.out.c hbits2).mono ?_; rintro e w13 ⟨v13, rfl, hown13, hb13⟩; have HB13 := Lib.hid (HB12.out.kept hb13); have z2 := HB13.out.r.c4; obtain ⟨A13, c13, rfl⟩ := own_slice hown13; have cv13 := conv_own hown13; have HOW13 := Lib.hid hown13; clear hown13 hb13)
              | (go_at_call 24; refine (rcbytes_any m sx.lo sx.wd sx.ow enx sx.bits _ _ HB13.out.r hbits).mono ?_; rintro e w14 ⟨rfl, hb14⟩; have HB14 := Lib.hid (HB13.out.kept hb14); have z3 := HB14.out.r.c4; have cv14 := conv_own (pw_own_below HOW13.out hb14); clear hb14)
              | fail)
          all_goals
            go_wp2
            go_roundg (l.length - (i + 1))
            case measure => omega
            case rel => exact ⟨i + 1, sx, enx, vx, _, by omega, rfl, by go_num, hsx, HB14⟩
      · obtain rfl : i = l.length := by omega
        clear HO HTB
        go_wp2
        have hfs := finS_sum en s
        obtain ⟨sx, hsx⟩ : ∃ sx, sx = finS en s := ⟨_, rfl⟩
        have HSX := Lib.hid hsx
        rw [← hsx] at hfs
        have hbits : sx.bits.length ≤ 100000 := by omega
        have hbits2 : sx.bits.length < 100000000 := by omega
        clear hsx hfs hs hn0 hi hlt
        go_region_with
          (first
            | (go_at_call 20; refine (Bo.endC (show Bo w g m s en v vm _ from (by first | exact HBr.out | exact HBr.out.drew)) HN0.out).mono ?_; rw [← HSX.out]; rintro e w10 ⟨rfl, v10, h10⟩; have HH10 := Lib.hid h10; clear h10)
            | (go_at_call 21; refine (Ha.endM (by rw [← HSX.out]; exact HH10.out) HN0.out).mono ?_; rw [← HSX.out]; rintro e w11 ⟨rfl, vm11, h11⟩; have HB11 := Lib.hid h11; clear h11; obtain ⟨Am, cm, rfl⟩ : ∃ Am cm, vm11 = .slice Am sx.bits.length cm := (by obtain ⟨A, c, h, -⟩ := own_reads HB11.out.r.own; rw [bitsZ_len] at h; exact ⟨A, c, h⟩); have z0 := HB11.out.r.c4)
            | (go_at_call 23; refine (bits_any g sx true v10 _ HB11.out.c hbits2).mono ?_; rintro e w13 ⟨v13, rfl, hown13, hb13⟩; have HB13 := Lib.hid (HB11.out.kept hb13); have z1 := HB13.out.r.c4; obtain ⟨A13, c13, rfl⟩ := own_slice hown13; have cv13 := conv_own hown13; have HOW13 := Lib.hid hown13; clear hown13 hb13)
            | (go_at_call 24; refine (rcbytes_any m sx.lo sx.wd sx.ow true sx.bits _ _ HB13.out.r hbits).mono ?_; rintro e w14 ⟨rfl, hb14⟩; have HB14 := Lib.hid (HB13.out.kept hb14); have z2 := HB14.out.r.c4; have cv14 := conv_own (pw_own_below HOW13.out hb14); clear hb14)
            | (go_at_call 22; refine (len_any g sx true v10 _ HB14.out.c).mono ?_; rintro e w15 ⟨rfl, hw15⟩; have HB15 := Lib.hid (show Bo w g m sx true v10 (.slice Am sx.bits.length cm) w15 from (by rw [hw15]; exact HB14.out)); clear hw15; have z3 := HB15.out.r.c4)
            | fail)
        all_goals
          go_wp2
          go_ret
          exact ⟨rfl, HB15.out.base⟩
theorem puts_of {w : World} {A : Option Addr} {len c : Nat} {a : Int} (xs : List (RowZ × Int)) (hl : xs.length = len) (hx : ∀ i (hi : i < xs.length), ∃ ad, A = some ad ∧ w.cell? (ad.add (i * 2)) = some (.slice xs[i].1.ad xs[i].1.len xs[i].1.cap) ∧ w.cell? ⟨(ad.add (i * 2)).block, (ad.add (i * 2)).off + 1, none⟩ = some (.int .i64 xs[i].2) ∧ xs[i].1.Is .i64 w)
    (hc : len ≤ c ∧ c ≤ maxLen) (h2 : (Lit.int .u8 a).wf = true) : Calls Try.prog 3 #[.slice A len c, .int .u8 a] w fun e w' => e = .returned (.bool true) ∧ Below w.heap.size w w' := by
  obtain ⟨l, rfl, h⟩ := M.ones_of xs hl hx hc.1 hc.2
  have h5 : IntKind.u8.min ≤ a ∧ a ≤ IntKind.u8.max := by simpa [Lit.wf] using h2
  have h6 : 0 ≤ a ∧ a ≤ 255 := h5
  obtain ⟨N, rfl⟩ := Int.eq_ofNat_of_zero_le h6.1
  exact puts_walk A c l N w (by omega) h
end Go.Proofs.Ytikjolinendfgaa.Ari
