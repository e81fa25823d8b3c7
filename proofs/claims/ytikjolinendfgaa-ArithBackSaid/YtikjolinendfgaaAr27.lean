/- The walk of the statement ArithBack. -/
import Derived.Test.YtikjolinendfgaaArQ3
set_option linter.unusedVariables false
set_option linter.unusedSimpArgs false
namespace Go.Proofs.Ytikjolinendfgaa.Ari
open Go.RowKit Go.Proofs.YtikjolinendfgaaW.PrintWords Go.Proofs.YtikjolinendfgaaW.PrintLast Go.Proofs.YtikjolinendfgaaW.PrintMore Go.Proofs.Ytikjolinendfgaa.Bit

set_option maxRecDepth 100000 in
set_option maxHeartbeats 32000000 in
theorem back_walk (A : Option Addr) (c : Nat) (l : List Sy) (A1 : Option Addr) (n1 c1 : Nat) (tl : List Int) (w : World) (h : Ones w A l) (r1 : ReadsInt w .u8 A1 n1 tl) (htl : ∀ x ∈ tl, 0 ≤ x ∧ x ≤ 255) (y1 : n1 ≤ 140737488351232) :
    Calls Try.prog 5 #[.slice A l.length c, .slice A1 n1 c1] w fun e w' => e = .returned (.bool true) ∧ Below w.heap.size w w' := by
  have HO := Lib.hid h
  have HR1 := Lib.hid r1
  have hlen := h.1
  have hn1 : tl.length = n1 := r1.1
  have HN1 := Lib.hid hn1
  have HTL := Lib.hid htl
  clear h r1 hn1 htl
  cases hfb : farB l with
  | true =>
    go_enter Try.func5, Try.ntmps5
    go_wp2_with (first
      | (go_at_call 12; refine (alive _).mono ?_; rintro e w1 ⟨rfl, hb1⟩)
      | (go_at_call 13; refine (far_any A c l _ (M.ones_below HO.out hb1)).mono ?_; rintro e w4 ⟨rfl, rfl⟩; rw [hfb]))
    go_ret
    exact ⟨rfl, hb1⟩
  | false =>
    by_cases h0 : 100 < n1
    · go_enter Try.func5, Try.ntmps5
      go_wp2_with (first
        | (go_at_call 12; refine (alive _).mono ?_; rintro e w1 ⟨rfl, hb1⟩)
        | (go_at_call 13; refine (far_any A c l _ (M.ones_below HO.out hb1)).mono ?_; rintro e w4 ⟨rfl, rfl⟩; rw [hfb]))
      go_ret
      exact ⟨rfl, hb1⟩
    obtain ⟨hl2, htb⟩ := M.far_not hfb
    have HTB := Lib.hid htb
    have hd100 : decide ((100 : Int) < (n1 : Int)) = false := decide_eq_false (by omega)
    clear htb
    go_enter Try.func5, Try.ntmps5
    go_wp2_with (first
      | (go_at_call 12; refine (alive _).mono ?_; rintro e w1 ⟨rfl, hb1⟩)
      | (go_at_call 13; refine (far_any A c l _ (M.ones_below HO.out hb1)).mono ?_; rintro e w2 ⟨rfl, rfl⟩; rw [hfb])
      | (go_at_call 14; refine (newCoder_any _).mono ?_; rintro e w3 ⟨rfl, hc3, hb3⟩; have HC3 := Lib.hid hc3; have HB3 := Lib.hid hb3; clear hc3 hb3))
    have hg3 := blk_lt HC3.out.at_
    have HBk : Hid (Bk w w2.heap.size s0 (.slice none 0 0) (.slice none 0 0) [] w3) :=
      ⟨bt hb1 HB3.out, hb1.size, ⟨HC3.out.at_, World.ownsRow_nil _ _ _ _, fun _ _ => rfl⟩, World.ownsRow_nil _ _ _ _, (by simp [Value.ownBlock]), fun b hb => (by simp [Value.ownBlock] at hb), fun y hy => (by cases hy), rfl, ⟨by decide, by decide⟩, by decide, by decide⟩
    clear HC3 HB3 hb1 hg3
    generalize w2.heap.size = g at HBk ⊢
    go_loopg [6, 7] l.length (fun gk x y W => ∃ (i : Nat) (s : St) (v vd : Value) (dn : List Sy), i ≤ l.length ∧ gk = l.length - i ∧ x = vd ∧ y = .int .i64 i ∧ dn.length ≤ i ∧ Hid (Bk w g s v vd dn W))
    case atStart => exact ⟨0, s0, _, _, [], by omega, rfl, rfl, rfl, by decide, HBk⟩
    case round =>
      obtain ⟨i, s, v, vd, dn, hi, rfl, rfl, rfl, hdl, HBr⟩ := hrel
      clear HBk
      have hst := HBr.out.len
      obtain ⟨Ad, cd, rfl⟩ := own_slice HBr.out.own
      by_cases hlt : i < l.length
      · obtain ⟨ad, rfl, y0, y1, hr, hcap, hbd⟩ := HO.out.2 i hlt
        have ht2 := HTB.out i hlt
        generalize l[i] = si at y0 y1 hr hcap hbd ht2
        have z0 := M.cell_below HBr.out.base y0
        have z1 := M.cell_below HBr.out.base y1
        have HY0 := Lib.hid y0
        have HY1 := Lib.hid y1
        clear y0 y1
        by_cases hok : okS si.tb si.s
        · have HP : Hid (PutOk w si) := ⟨hok, hr, hcap, hbd⟩
          have hq : Q.steps s ≤ 10000 := by omega
          have HQ := Lib.hid hq
          clear hok hr hcap hbd hq
          go_upto_region 10 with fail
          go_region_held3 (fun w' => w'.cell? (ad.add (i * 2)) = some (.slice si.ad si.tb.length si.cap) ∧ w'.cell? ⟨(ad.add (i * 2)).block, (ad.add (i * 2)).off + 1, none⟩ = some (.int .i64 si.s))
            (first | exact ⟨z0, z1⟩ | exact ⟨k0, k1⟩)
            (first
              | (go_at_call 18; refine (Bk.put (by first | exact HBr.out | exact HBr.out.drew) HP.out HQ.out).mono ?_; rintro e w4 ⟨rfl, k, s', v', h4⟩; have HH4 := Lib.hid h4; have k0 := M.cell_below h4.base HY0.out; have k1 := M.cell_below h4.base HY1.out; clear h4)
              | fail)
          have hown4 := HH4.out.own
          have hb4 : w.heap.size ≤ w4.heap.size := HH4.out.base.size
          clear z0 z1
          go_wp2_with (at_builtin; go_loud (refine print_append_cells w.heap.size rfl (.tmp 44) (.tmp 49) 22 31 _ 2 32 rfl Try.underlying22 infoOne rfl (by decide) (by decide) (.slice Ad dn.length cd) dn.length (syC dn) [.slice si.ad si.tb.length si.cap, .int .i64 si.s] rfl rfl rfl (by intro u hu; simp only [List.mem_cons, List.not_mem_nil, or_false] at hu; rcases hu with rfl | rfl <;> rfl) hown4 (Below.refl _ _) hb4 (by omega) ?_); intro v5 w5 hown5 hB5 hg5 hat5; have HB5 := Lib.hid (HH4.out.note HP.out hown5 hB5 hg5 hat5); clear hown5 hB5 hg5 hat5)
          go_roundg (l.length - (i + 1))
          case measure => omega
          case rel => exact ⟨i + 1, s', v', v5, dn ++ [si], by omega, rfl, rfl, by go_num, by simp; omega, HB5⟩
        · have HC0 := Lib.hid (fun k => put_no g s v si.ad si.tb.length si.cap si.tb si.s (wr.drewN k) (CoAt.drewN HBr.out.c k) ((hr.below HBr.out.base).drewN k) hbd hok)
          have HC1 := Lib.hid (put_no g s v si.ad si.tb.length si.cap si.tb si.s wr.drew (CoAt.drew HBr.out.c) ((hr.below HBr.out.base).drewN 1) hbd hok)
          clear hok hr hcap hbd
          go_upto_region 10 with fail
          go_quiet ((go_at_call 18; exact Calls.quiet_of_same (HC0.out _)))
          go_wp2
          go_roundg (l.length - (i + 1))
          case measure => omega
          case rel => exact ⟨i + 1, s, v, _, dn, by omega, rfl, rfl, by go_num, by omega, by first | exact HBr | exact HBr.out.drew | exact HBr.out.drewN _⟩
      · obtain rfl : i = l.length := by omega
        have hok := HBr.out.ok
        have HOK := Lib.hid hok
        have HENC := Lib.hid HBr.out.enc
        have HRO : Hid (Rest s ∧ offOf s = none) := ⟨HBr.out.rest, HBr.out.off⟩
        have hq : Q.steps s ≤ 10000 := by omega
        have HQ := Lib.hid hq
        obtain ⟨E, hE⟩ : ∃ E, (fin s).bits = E := ⟨_, rfl⟩
        have hel : E.length = Q.steps s + 2 := by rw [← hE]; exact fin_len2 s
        have HE := Lib.hid hE
        obtain ⟨mE, hmE⟩ : ∃ mE, E.length = mE := ⟨_, rfl⟩
        have HME := Lib.hid hmE
        rw [hmE] at hel
        have hm1 : mE ≤ 14 * dn.length + 2 ∧ mE ≤ 10002 ∧ 2 ≤ mE := by omega
        obtain ⟨hm1, hm2, hm3⟩ := hm1
        obtain ⟨r, hr⟩ : ∃ r, r = mE % 8 := ⟨_, rfl⟩
        have hrI : (mE : Int) % 8 = (r : Int) := by omega
        have hr8 : r < 8 := by omega
        have HR := Lib.hid hr
        have HB := Lib.hid HBr
        clear HO HTB hok hq hE hmE hi hlt hst hel hr
        have HDL := Lib.hid hdl
        have HL2 := Lib.hid hl2
        have hdn : dn.length ≤ 200 := by omega
        clear hdl
        go_wp2_with (first
          | (go_at_call 20; refine (Bk.endB HBr.out HQ.out HE.out).mono ?_; rintro e w4 ⟨rfl, v4, h4⟩; have HE4 := Lib.hid h4; clear h4)
          | (go_at_call 22; refine (Be.lenB HE4.out).mono ?_; rw [HME.out]; rintro e w5 ⟨rfl, rfl⟩)
          | (go_at_call 23; refine (Be.bitsB HE4.out (by rw [HME.out]; omega)).mono ?_; rintro e w6 ⟨v6, rfl, hown6, hb6⟩; have HO6 := Lib.hid hown6; have HB6 := Lib.hid hb6; have HE6 := Lib.hid (HE4.out.kept hb6); obtain ⟨A6, c6, rfl⟩ := own_slice hown6; clear hown6 hb6))
        have hbl : (bytesS E).length = rowN mE := by rw [Q.bytesS_len, HME.out]
        obtain ⟨R, hR⟩ : ∃ R, (bytesS E).length = R := ⟨_, rfl⟩
        rw [hR] at hbl HO6
        have hR1 : 1 ≤ R ∧ R ≤ 2000 := by rw [hbl]; unfold rowN; omega
        obtain ⟨hR1, hR2⟩ := hR1
        rw [hR]
        have HRL := Lib.hid hR
        have HRN := Lib.hid hbl
        clear hR hbl
        by_cases h15 : r ≠ 0 ∧ 0 < n1
        case' pos =>
          obtain ⟨hr0, hn0⟩ := h15
          obtain ⟨g6, c6', e6, hcap6, hg6⟩ : ∃ g c, (Value.slice A6 R c6) = .slice (some ⟨g, 0, none⟩) R c ∧ R ≤ c ∧ w5.heap.size ≤ g := by
            rcases HO6.out.2 with ⟨-, h2⟩ | ⟨g, cap, cur, h1, h2, -, h3, -⟩
            · omega
            · exact ⟨g, cap, h1, h3, h2⟩
          simp only [Value.slice.injEq] at e6
          obtain ⟨rfl, -, rfl⟩ := e6
          obtain ⟨p, hp⟩ : ∃ p, p + 1 = R := ⟨R - 1, by omega⟩
          have hpI : (R : Int) - 1 = (p : Int) := by omega
          have hb3 : (-9223372036854775808 : Int) ≤ (p : Int) ∧ (p : Int) ≤ 9223372036854775807 := by omega
          have HPB := Lib.hid hb3
          have HPI := Lib.hid hpI
          clear hb3
          have hp0 : (0 : Int) ≤ (p : Int) := by omega
          have hpN : p < R := by omega
          have hpR : (p : Int) < (R : Int) := by omega
          have hn0I : (0 : Int) < (n1 : Int) := by omega
          have hrT : (mE : Int).tmod 8 = (r : Int) := by rw [Int.tmod_eq_emod_of_nonneg (by omega)]; exact hrI
          obtain ⟨x1, x2⟩ := own_at HO6.out (p : Int) (by omega) (by omega)
          rw [Int.toNat_natCast] at x1 x2
          have e7 : rd (bytesS E) (p : Int) = ((byteN (ofL E) p : Nat) : Int) := by
            unfold rd bytesS
            rw [Int.toNat_natCast]
            exact bytesL_at _ _ _ (by have := HRL.out; rw [Q.bytesS_len] at this; omega)
          rw [e7] at x1
          have hbb := byteN_lt (ofL E) p
          obtain ⟨bb, hbe⟩ : ∃ bb, bb = byteN (ofL E) p := ⟨_, rfl⟩
          rw [← hbe] at x1 hbb
          obtain ⟨ad1, hA1, z⟩ := (HR1.out.below HE6.out.base).at_ 0 (by omega) (by omega)
          subst hA1
          obtain ⟨t0, ht0, ht1⟩ : ∃ t0 : Nat, rd tl 0 = (t0 : Int) ∧ t0 < 256 := by
            have hmem : rd tl 0 ∈ tl := by
              have h : 0 < tl.length := by rw [HN1.out]; omega
              have e : rd tl 0 = tl[0] := by simp [rd, List.getD_eq_getElem?_getD, List.getElem?_eq_getElem h]
              rw [e]
              exact List.getElem_mem h
            have := HTL.out _ hmem
            exact ⟨(rd tl 0).toNat, by omega, by omega⟩
          rw [ht0] at z
          have z0 : w6.cell? ad1 = some (.int .u8 (t0 : Int)) := z
          obtain ⟨yy, hyy⟩ : ∃ yy, yy = t0 / 2 ^ r := ⟨_, rfl⟩
          have hylt : yy < 2 ^ (8 - r) := by
            rw [hyy, Nat.div_lt_iff_lt_mul (Nat.two_pow_pos r), ← Nat.pow_add, show 8 - r + r = 8 from by omega]
            exact ht1
          have hy256 : yy < 256 := Nat.lt_of_lt_of_le hylt (Nat.pow_le_pow_right (n := 2) (j := 8) (by decide) (by omega))
          have e1 : (t0 : Int) / 2 ^ r = (yy : Int) := by rw [hyy]; push_cast; rfl
          have e2 := bits_or8 bb yy hbb hy256
          have e0 : IntKind.u64.wrap (r : Int) = (r : Int) := by rw [IntKind.wrap_u64]; omega
          have HS : Hid (Q.Says E ((bytesS E).set p ((bb ||| yy : Nat) : Int))) := by
            show Q.Says _ _
            rw [hbe]
            exact Q.says_or (by rw [hp, HRN.out, HME.out]) (by rw [HME.out]; exact HR.out) hr0 hylt
          have hor : bb ||| yy < 256 := Nat.or_lt_two_pow (n := 8) hbb hy256
          obtain ⟨oo, hoo⟩ : ∃ oo, oo = bb ||| yy := ⟨_, rfl⟩
          rw [← hoo] at e2 HS hor
          have HX : Hid (∀ k, ((w6.drewN k).setCell ⟨g6, p, none⟩ (.int .u8 (oo : Int))).ownsRow w5.heap.size 5 1 (.slice (some ⟨g6, 0, none⟩) R c6) R (nums .u8 ((bytesS E).set p (oo : Int)))) := by
            intro k
            have h := (own_store (W := w6.drewN k) (own_move HO6.out fun _ _ => rfl) (p : Int) (oo : Int)).1
            rw [Int.toNat_natCast] at h
            exact h
          have HBX : Hid (∀ k, Below w5.heap.size w5 ((w6.drewN k).setCell ⟨g6, p, none⟩ (.int .u8 (oo : Int)))) := fun k => (pw_below_drewN HB6.out k).setCell (p := ⟨g6, p, none⟩) hg6 _
          have hr0I : ((r : Int) == 0) = false := beq_eq_false_iff_ne.2 (by omega)
          have HHYY := Lib.hid (And.intro hyy hylt)
          have HOO := Lib.hid (And.intro hoo hbe)
          clear hyy hylt hoo hbe z e7 ht0
          refine (Be.lenB HE6.out).mono ?_
          rw [HME.out]
          rintro e w7 ⟨rfl, rfl⟩
          go_wp2
          have HFUp : Hid (∀ x ∈ (bytesS E).set p (oo : Int), 0 ≤ x ∧ x ≤ 255) := fun x hx => by
            rcases List.mem_or_eq_of_mem_set hx with h | h
            · exact Q.bytes_in _ _ x h
            · omega
          have HLp : Hid (((bytesS E).set p (oo : Int)).length = R) := by
            show _ = _
            rw [List.length_set]
            exact HRL.out
          have hpW2 : IntKind.i64.wrap (p : Int) = (p : Int) := IntWalk.i64_in _ HPB.out
          have hpW3 : wrap64 (p : Int) = (p : Int) := IntWalk.wrap64_in _ HPB.out
          have hpW : IntKind.i64.wrap ((R : Int) - 1) = (p : Int) := by rw [hpI]; exact hpW2
          have hpW4 : wrap64 ((R : Int) - 1) = (p : Int) := by rw [hpI]; exact hpW3
          clear hcap6 hp hpI hbb ht1 hy256 hor hr0 hn0 HPB HPI
          go_region_with (first
            | (go_at_call 22; refine (Be.lenB (show Be w g E (fin s) v4 (.slice Ad dn.length cd) dn _ from (by first | exact HE6.out | exact HE6.out.drew))).mono ?_; rw [HME.out]; rintro e w8 ⟨rfl, hw8⟩; (obtain ⟨k8, hk8⟩ : ∃ k, w8 = w7.drewN k := by first | exact ⟨0, hw8⟩ | exact ⟨1, hw8⟩); have x1' : w8.cell? ⟨g6, p, none⟩ = some (.int .u8 (bb : Int)) := (by rw [hk8]; exact x1); have x2' : w8.frozen? ⟨g6, p, none⟩ = false := (by rw [hk8]; exact x2); have z0' : w8.cell? ad1 = some (.int .u8 (t0 : Int)) := (by rw [hk8]; exact z0); have HX8 : Hid ((w8.setCell ⟨g6, p, none⟩ (.int .u8 (oo : Int))).ownsRow w5.heap.size 5 1 (.slice (some ⟨g6, 0, none⟩) R c6) R (nums .u8 ((bytesS E).set p (oo : Int)))) := (by rw [hk8]; exact HX.out k8); have HBX8 : Hid (Below w5.heap.size w5 (w8.setCell ⟨g6, p, none⟩ (.int .u8 (oo : Int)))) := (by rw [hk8]; exact HBX.out k8); clear hw8 hk8)
            | fail)
          all_goals
            go_upto_region 17 with fail
            obtain ⟨wx, hwx⟩ : ∃ wx, wx = w8.setCell ⟨g6, p, none⟩ (.int .u8 (oo : Int)) := ⟨_, rfl⟩
            rw [← hwx]
            obtain ⟨F0, HFO, HFB, HSY, HFU⟩ : ∃ F0 : List Int, Hid (wx.ownsRow w5.heap.size 5 1 (.slice (some ⟨g6, 0, none⟩) R c6) F0.length (nums .u8 F0) ∧ F0.length = R) ∧ Hid (Below w5.heap.size w5 wx) ∧ Hid (Q.Says E F0) ∧ Hid (∀ x ∈ F0, 0 ≤ x ∧ x ≤ 255) :=
              ⟨(bytesS E).set p (oo : Int), ⟨by rw [HLp.out, hwx]; exact HX8.out, HLp.out⟩, by rw [hwx]; exact HBX8, HS, HFUp⟩
            clear hwx HX8 HBX8 x1' x2' z0' HX HBX x1 x2 z0 HS HFUp HLp HO6 HB6 HE6 e2 e1 e0 hpW hpW2 hpW3 hpW4 hp0 hpR hpN hn0I hrT hr0I HHYY HOO
            obtain ⟨A6, hA6⟩ : ∃ A6, A6 = some (⟨g6, 0, none⟩ : Addr) := ⟨_, rfl⟩
            rw [← hA6] at HFO
            rw [← hA6]
            clear hA6
            obtain ⟨A1, hA1⟩ : ∃ A1, A1 = some ad1 := ⟨_, rfl⟩
            rw [← hA1] at HR1
            rw [← hA1]
            clear hA1
        case' neg =>
          refine (Be.lenB HE6.out).mono ?_
          rw [HME.out]
          rintro e w7 ⟨rfl, rfl⟩
          go_upto_region 17 with fail
          all_goals
            obtain ⟨wx, rfl⟩ : ∃ wx, wx = w7 := ⟨_, rfl⟩
            obtain ⟨F0, HFO, HFB, HSY, HFU⟩ : ∃ F0 : List Int, Hid (wx.ownsRow w5.heap.size 5 1 (.slice A6 R c6) F0.length (nums .u8 F0) ∧ F0.length = R) ∧ Hid (Below w5.heap.size w5 wx) ∧ Hid (Q.Says E F0) ∧ Hid (∀ x ∈ F0, 0 ≤ x ∧ x ≤ 255) :=
              ⟨bytesS E, ⟨by rw [HRL.out]; exact HO6.out, HRL.out⟩, HB6, Q.says_own E, Q.bytes_in _ _⟩
            clear HO6 HB6 HE6
        all_goals
          obtain ⟨hFO, hFL⟩ := HFO.out
          have HFL := Lib.hid hFL
          have HRD := Lib.hid (HR1.out.below (bt HE4.out.base HFB.out))
          have hsz5 := HFB.out.size
          have hapl : (F0.length + n1) * 1 ≤ 140737488355328 := by omega
          have HAPL := Lib.hid hapl
          clear hFL HFO hapl
          by_cases h512 : 512 < R + n1
          · go_wp2_with (at_builtin; go_loud (refine print_append_row (w0 := wx) w5.heap.size rfl (.tmp 94) (.tmp 95) 41 5 .u8 1 rfl Try.underlying41 info8 (by decide) (.slice A6 R c6) F0 tl A1 n1 c1 rfl rfl hFO HRD.out (Below.refl _ _) hsz5 HAPL.out ?_); intro v8 w8 hown8 hB8 hg8 hat8; rw [List.length_append, HFL.out, HN1.out] at hown8; obtain ⟨A8, c8, rfl⟩ := own_slice hown8; have HB8 := Lib.hid hB8; clear hown8 hB8 hg8 hat8)
            go_ret
            exact ⟨rfl, bt HE4.out.base (HFB.out.trans HB8.out)⟩
          · have h512N : R + n1 ≤ 512 := by omega
            go_wp2_with (at_builtin; go_loud (refine print_append_row (w0 := wx) w5.heap.size rfl (.tmp 94) (.tmp 95) 41 5 .u8 1 rfl Try.underlying41 info8 (by decide) (.slice A6 R c6) F0 tl A1 n1 c1 rfl rfl hFO HRD.out (Below.refl _ _) hsz5 HAPL.out ?_); intro v8 w8 hown8 hB8 hg8 hat8; rw [List.length_append, HFL.out, HN1.out] at hown8; obtain ⟨A8, c8, rfl⟩ := own_slice hown8; have HB8 := Lib.hid hB8; have HO8 := Lib.hid hown8; clear hown8 hB8 hg8 hat8)
            have HFU8 : Hid (∀ x ∈ F0 ++ tl, 0 ≤ x ∧ x ≤ 255) := fun x hx => (List.mem_append.1 hx).elim (HFU.out x) (HTL.out x)
            have HSY8 := Lib.hid (HSY.out.append tl)
            have hFl : (F0 ++ tl).length = R + n1 := by rw [List.length_append, HFL.out, HN1.out]
            generalize F0 ++ tl = F at HFU8 HSY8 hFl HO8
            have HB8w := Lib.hid (HFB.out.trans HB8.out)
            have HD8 := Lib.hid (pw_own_below HE4.out.own HB8w.out)
            have HBA8 := Lib.hid (bt HE4.out.base HB8w.out)
            obtain ⟨O, hO⟩ := bytes_bits F HFU8.out
            have HAG := Lib.hid (fun i hi => Q.agree HSY8.out hO i hi)
            rw [hFl] at hO HAG
            have HFl := Lib.hid hFl
            have HRD8 : Hid (ReadsInt w8 .u8 A8 (R + n1) (bytesL O (R + n1))) := by
              show ReadsInt _ _ _ _ _
              rw [hO]
              exact own_reads' HO8.out
            clear hFl hO hFO hsz5 h512
            refine (open_yes A8 (R + n1) c8 O _ h512N HRD8.out).mono ?_
            rintro e w9 ⟨b, A', c', rfl, hE9, hb9, hbs9, hbl9⟩
            have hEP := eye_p hE9 hbl9 h512N
            have HD9 := Lib.hid (pw_own_below HD8.out hb9)
            have HBA9 := Lib.hid (bt HBA8.out hb9)
            generalize hBe : (fun i : Nat => (bitI O (R + n1) i).toNat) = B at hEP
            have HAG2 : Hid (∀ i, i < E.length → B i = (E.getD i false).toNat) := fun i hi => by rw [← hBe]; exact HAG.out i hi
            have hBle := hEP.le
            have HBL := Lib.hid hBle
            clear hE9 hbs9 hbl9 hb9 hBe hBle HAG
            go_wp2_with fail
            refine (newFinder_any (some ⟨b, 0, none⟩) B 0 0 rfl (by omega) _ hEP).mono ?_
            rintro e w10 ⟨rfl, hF10, hlt10⟩
            have HFS10 := Lib.hid (fs0 hF10)
            have HFIT : Hid (Q.Fit B s) := Q.fit_end HBL.out HRO.out.1 HRO.out.2 (fun i hi => by have h := HAG2.out; rw [← HE.out] at h; exact h i hi)
            have HD0 := Lib.hid (Q.dec0 B)
            generalize (⟨0, 65536, vN B 0 16, 16⟩ : Fs) = fs10 at HFS10 HD0
            have HX0 : Hid (Q.Enc (tis (dn.drop 0)) s0 s ∧ Rest s0 ∧ Q.Dec B s0 fs10) := ⟨HENC.out, ⟨by decide, by decide⟩, HD0.out⟩
            clear hF10 hEP HB8 HB8w HD8 HBA8 HO8 HFU8 HSY8 HFL HFU HSY HRD HAPL HRL HRN
            go_wp2
            go_loopg [12] dn.length (fun gk x W => ∃ (q : Nat) (u : St) (fs : Fs), q ≤ dn.length ∧ gk = dn.length - q ∧ x = .int .i64 q ∧ Q.steps u ≤ 14 * q ∧ Hid (Q.Enc (tis (dn.drop q)) u s ∧ Rest u ∧ Q.Dec B u fs) ∧ Hid (FS w9.heap.size (some ⟨b, 0, none⟩) 0 B w9 fs W))
            case atStart => exact ⟨0, s0, fs10, by omega, rfl, rfl, by decide, HX0, HFS10⟩
            case round =>
              obtain ⟨q, u, fs, hq, rfl, rfl, hus, HX, HFS⟩ := hrel
              clear HX0 HFS10 HD0
              by_cases hlt : q < dn.length
              · obtain ⟨gd, cd', ed, -, hgd⟩ : ∃ g c, (Value.slice Ad dn.length cd) = .slice (some ⟨g, 0, none⟩) dn.length c ∧ dn.length ≤ c ∧ w.heap.size ≤ g := by
                  rcases HD9.out.2 with ⟨-, h2⟩ | ⟨g, cap, cur, h1, h2, -, h3, -⟩
                  · omega
                  · exact ⟨g, cap, h1, h3, h2⟩
                simp only [Value.slice.injEq] at ed
                obtain ⟨rfl, -, rfl⟩ := ed
                have hdr : wr.ownsRow w.heap.size 31 2 (.slice (some ⟨gd, 0, none⟩) dn.length cd) dn.length (syC dn) :=
                  own_move HD9.out fun j hj => HFS.out.only.block j (own_lt HD9.out j hj) (by have := own_lt HD9.out j hj; intro e; injection e with e; omega)
                obtain ⟨a0, a1⟩ := syC_at dn q hlt
                have z0 := own_cell2 hdr _ _ a0
                have z1 := own_cell2 hdr _ _ a1
                have hbr : Below w.heap.size w wr := HBA9.out.trans ((only_below HFS.out.only (Nat.le_refl _)).mono HBA9.out.size)
                obtain ⟨hX1, hX2, hX3⟩ := HX.out
                rw [List.drop_eq_getElem_cons hlt] at hX1
                obtain ⟨⟨hyg, hy0, hy1⟩, hyr, hyc, hyb⟩ := HOK.out _ (List.getElem_mem hlt)
                generalize dn[q] = y at a0 a1 z0 z1 hX1 hyg hy0 hy1 hyr hyc hyb
                obtain ⟨yad, ycap, ytb, ys⟩ := y
                simp only at a0 a1 z0 z1 hX1 hyg hy0 hy1 hyr hyc hyb
                obtain ⟨si, rfl⟩ := Int.eq_ofNat_of_zero_le hy0
                have hX1' : Q.Enc ((ytb, si) :: tis (dn.drop (q + 1))) u s := hX1
                have hfu := Q.Enc.fit HBL.out hX1' hX2 HFIT.out
                have hinf := Q.dec_in hX3 hfu ⟨by have := hX2.1; omega, hX2.2⟩
                have hfar : ∀ ad, yad = some ad → ad.block ≠ w9.heap.size := fun ad e => by
                  have h1 := M.reads_lt hyr (by have := hyg.1; omega) ad e
                  have h2 := HBA9.out.size
                  omega
                have hrd : fs.rd ≤ 1000000 := by rw [hX3.2.2.1]; omega
                have TG := get_ok w9.heap.size (some ⟨b, 0, none⟩) 0 B w9 fs yad ytb.length ycap ytb wr HFS.out hinf (hyr.below hbr) hyc hyb hyg (by omega) hrd hfar
                have HXX := Lib.hid (And.intro hX1' (And.intro hX2 hX3))
                have HA1 := Lib.hid a1
                clear hX1 hX1' hX2 hX3 hfu hinf hfar hyr hyc hyb hyg hdr hbr a0 a1 hy0
                go_wp2_with fail
                refine TG.mono ?_
                rintro e w11 ⟨i', rfl, hG⟩
                obtain ⟨rfl, u', fs', k1, k2, k3, k4, k5⟩ := Q.get_found HBL.out hG HXX.out.1 HXX.out.2.1 HXX.out.2.2 HFIT.out
                have hdr2 : w11.ownsRow w.heap.size 31 2 (.slice (some ⟨gd, 0, none⟩) dn.length cd) dn.length (syC dn) :=
                  own_move HD9.out fun j hj => k5.only.block j (own_lt HD9.out j hj) (by have := own_lt HD9.out j hj; intro e; injection e with e; omega)
                have z2 := own_cell2 hdr2 _ _ HA1.out
                have HK := Lib.hid (And.intro k1 (And.intro k2 k3))
                have HK5 := Lib.hid k5
                clear hdr2 k1 k2 k3 k5 hG TG z0 z1
                go_wp2
                go_roundg (dn.length - (q + 1))
                case measure => omega
                case rel => exact ⟨q + 1, u', fs', by omega, rfl, by go_num, by omega, HK, HK5⟩
              · go_wp2
                go_ret
                exact ⟨rfl, HBA9.out.trans ((only_below HFS.out.only (Nat.le_refl _)).mono HBA9.out.size)⟩
theorem back_of {w : World} {A : Option Addr} {len c : Nat} {A1 : Option Addr} {n1 c1 : Nat} (xs : List (RowZ × Int)) (hl : xs.length = len) (hx : ∀ i (hi : i < xs.length), ∃ ad, A = some ad ∧ w.cell? (ad.add (i * 2)) = some (.slice xs[i].1.ad xs[i].1.len xs[i].1.cap) ∧ w.cell? ⟨(ad.add (i * 2)).block, (ad.add (i * 2)).off + 1, none⟩ = some (.int .i64 xs[i].2) ∧ xs[i].1.Is .i64 w)
    (hc : len ≤ c ∧ c ≤ maxLen) (h1 : ∃ l : List Int, l.length = n1 ∧ ReadsInt w .u8 A1 n1 l ∧ (∀ x ∈ l, 0 ≤ x ∧ x ≤ 255) ∧ n1 ≤ c1) (y1 : n1 * 1 ≤ 140737488351232) : Calls Try.prog 5 #[.slice A len c, .slice A1 n1 c1] w fun e w' => e = .returned (.bool true) ∧ Below w.heap.size w w' := by
  obtain ⟨l, rfl, h⟩ := M.ones_of xs hl hx hc.1 hc.2
  obtain ⟨tl, -, hr, hb, -⟩ := h1
  exact back_walk A c l A1 n1 c1 tl w h hr hb (by omega)
end Go.Proofs.Ytikjolinendfgaa.Ari
