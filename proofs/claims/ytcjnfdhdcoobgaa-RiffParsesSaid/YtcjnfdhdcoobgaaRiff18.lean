/- The walk of the statement RiffParses. -/
import Derived.Test.YtcjnfdhdcoobgaaRiff17
set_option linter.unusedVariables false
set_option linter.unusedSimpArgs false
namespace Go.Proofs.Ytcjnfdhdcoobgaa.Rif
open Go.RowKit Go.Proofs.YtcjnfdhdcoobgaaW.PrintWords Go.Proofs.YtcjnfdhdcoobgaaW.PrintLast Go.Proofs.YtcjnfdhdcoobgaaW.PrintMore Go.Proofs.Ytcjnfdhdcoobgaa.Chk

set_option maxRecDepth 100000 in
set_option maxHeartbeats 4000000 in
theorem parses_walk (s : ByteArray) (w : World) (hs0 : s.size ≤ 140737488351232) : Calls Try.prog 9 #[.string s] w fun e w' => e = .returned (.bool true) ∧ Below w.heap.size w w' := by
  have kb := fun W : World => print_bytes (P := Try.prog) 9 37 5 Try.underlying9 Try.underlying37 Try.underlying5 s W
  have KB := Lib.hid kb
  have hlen := bytesOf_length s
  have HB := Lib.hid (bytesOf_byte s)
  obtain ⟨ps, ok, hc⟩ := files_cases (bytesOf s)
  obtain ⟨R, C, xs, ok2, hp⟩ := parse_cases (bytesOf s)
  have hpl : ps.length * 8 ≤ s.size := by
    rcases hc with ⟨-, rfl, -⟩ | ⟨h, -⟩
    · simp
    · have := (files_props _ _ h HB.out).2; omega
  have HCC := Lib.hid hc
  have HPC := Lib.hid hp
  have HNP : Hid (ok = false → ps = []) := fun h => by
    rcases HCC.out with ⟨-, h2, -⟩ | ⟨-, h2⟩
    · exact h2
    · rw [h] at h2; cases h2
  clear hc hp kb
  by_cases hl : s.size ≤ 2000
  · have TC := fun A c W (hcc : s.size ≤ c) (hr : ReadsInt W .u8 A s.size (bytesOf s)) => chunks_one A s.size c (bytesOf s) W (by omega) (by omega) HB.out hr ps ok HCC.out
    have TD := fun W => rchunks_two s W (by omega) ps ok HCC.out
    have TP := fun A c W (hcc : s.size ≤ c) (hr : ReadsInt W .u8 A s.size (bytesOf s)) => parse_one A s.size c (bytesOf s) W (by omega) (by omega) HB.out hr R C xs ok2 HPC.out
    have TQ := fun W => rparse_one s W (by omega) R C xs ok2 HPC.out
    obtain ⟨er, her⟩ : ∃ er : Int, er = if ok then 0 else 140 := ⟨_, rfl⟩
    obtain ⟨er2, her2⟩ : ∃ er2 : Int, er2 = if ok2 then 0 else 140 := ⟨_, rfl⟩
    rw [← her] at TC
    rw [← her2] at TP
    have HE1 := Lib.hid her
    have HE2 := Lib.hid her2
    clear her her2
    have HTC := Lib.hid TC
    have HTD := Lib.hid TD
    have HTP := Lib.hid TP
    have HTQ := Lib.hid TQ
    have HLB := Lib.hid hlen
    clear TC TD TP TQ HCC HPC
    go_enter Try.func9, Try.ntmps9
    go_wp2_with fail
    refine (alive _).mono ?_
    rintro e w1 ⟨rfl, hb1⟩
    have kb := KB.out w1
    have hbx := bytes_below (br w1) (Nat.le_refl _) 5 s
    have hrx := (BRow.of w1 s).reads (by omega)
    clear hlen
    rw [HLB.out] at hrx
    generalize Lib.bytesWorld w1 5 s = wx at kb hbx hrx
    have hgc : s.size ≤ grownCap w1 s.size 0 5 := grownCap_ge w1 s.size 0 5
    generalize grownCap w1 s.size 0 5 = c5 at kb hgc
    have HGC := Lib.hid hgc
    clear hgc
    go_wp2_with fail
    refine (HTC.out _ _ _ HGC.out hrx).mono ?_
    rintro e w2 ⟨v2, rfl, hown2, hb2⟩
    have hb2' := bt (bt hb1 hbx) hb2
    obtain ⟨A2, c2, rfl, hn2⟩ := names_read hown2
    clear kb hrx hb2 hbx hb1 hown2
    go_wp2_with fail
    refine (HTD.out _).mono ?_
    rintro e w3 ⟨A3, c3, rfl, hR3, hb3⟩
    have hb3' := bt hb2' hb3
    have HN2 : Hid (∀ (i : Nat) (hi : i < ps.length), ∃ ad, A2 = some ad ∧ w3.cell? (ad.add i) = some (.string (strOfNums ps[i].1))) := fun i hi => by
      obtain ⟨ad, e, h⟩ := hn2 i hi
      exact ⟨ad, e, pw_cell_below hb3 h⟩
    clear hn2 hb3 hb2'
    have f1 : (2 * (ps.length : Int) != (ps.length : Int) * 2) = false := bne_eq_false_iff_eq.2 (by omega)
    have hcs : (ok = false ∧ er = 140 ∧ ((ps.length : Int) != 0) = false) ∨ (ok = true ∧ er = 0 ∧ True) := by
      cases ok with
      | false => exact .inl ⟨rfl, HE1.out, by rw [HNP.out rfl]; rfl⟩
      | true => exact .inr ⟨rfl, HE1.out, trivial⟩
    have hcs2 : (ok2 = false ∧ er2 = 140) ∨ (ok2 = true ∧ er2 = 0) := by
      cases ok2 with
      | false => exact .inl ⟨rfl, HE2.out⟩
      | true => exact .inr ⟨rfl, HE2.out⟩
    have HCS2 := Lib.hid hcs2
    clear hcs2
    rcases hcs with ⟨rfl, rfl, n0⟩ | ⟨rfl, rfl, n0⟩
    all_goals
      go_wp2
      go_loopg [7] ps.length (fun gk v W => ∃ i : Nat, i ≤ ps.length ∧ gk = ps.length - i ∧ v = .int .i64 i ∧ Below w3.heap.size w3 W)
      case atStart => exact ⟨0, by omega, by omega, rfl, br _⟩
      case round =>
        obtain ⟨i, hi, rfl, rfl, hb⟩ := hrel
        by_cases hlt : i < ps.length
        · obtain ⟨ad, rfl, z1⟩ := HN2.out i hlt
          obtain ⟨ad', rfl, z2, -⟩ := hR3 i hlt
          have y1 := pw_cell_below hb z1
          have y2 := pw_cell_below hb z2
          generalize strOfNums ps[i].1 = sn at y1 y2
          have i0 : (0 : Int) ≤ (i : Int) := by omega
          have i1 : (i : Int) < (ps.length : Int) := by omega
          have i2 : (0 : Int) ≤ 2 * (i : Int) := by omega
          have i3 : 2 * (i : Int) < (ps.length : Int) * 2 := by omega
          have i4 : (2 * (i : Int)).toNat = 2 * i := by omega
          have i5 : IntKind.i64.wrap (2 * (i : Int)) = 2 * (i : Int) := IntWalk.i64_in _ (by omega)
          clear z1 z2
          go_upto_region 12 with fail
          go_quiet (fail)
          go_wp2
          go_roundg (ps.length - (i + 1))
          case measure => omega
          case rel => exact ⟨i + 1, by omega, rfl, by go_num, below_drewN hb _⟩
        · obtain rfl : i = ps.length := by omega
          have kb := KB.out wr
          have hbx := bytes_below (br wr) (Nat.le_refl _) 5 s
          have hlen := bytesOf_length s
          have hrx := (BRow.of wr s).reads (by omega)
          rw [HLB.out] at hrx
          generalize Lib.bytesWorld wr 5 s = wy at kb hbx hrx
          have hgc : s.size ≤ grownCap wr s.size 0 5 := grownCap_ge wr s.size 0 5
          generalize grownCap wr s.size 0 5 = c6 at kb hgc
          have HGC2 := Lib.hid hgc
          have hby := bt (bt hb3' hb) hbx
          clear hgc hlen hlt hi
          go_wp2_with fail
          refine (HTP.out _ _ _ HGC2.out hrx).mono ?_
          rintro e w4 ⟨A4, c4, rfl, hr4, hb4⟩
          have hb4' := bt hby hb4
          clear kb hrx hb4 hby hbx
          have hx4 := heap_alloc_new w4 (.cells #[.int .i64 R, .int .i64 C, .slice A4 xs.length c4] 60)
          go_wp2_with fail
          refine (HTQ.out _).mono ?_
          rintro e w5 ⟨A5, c7, rfl, hr5, hb5⟩
          have hx5 := (hb5.block _ (blk_lt hx4)).trans hx4
          have hb5' := bt (ba hb4' _) hb5
          have hr45 := (hr4.below (ba (br w4) _)).below hb5
          have hx6 := blk_alloc hx5 (.cells #[.int .i64 R, .int .i64 C, .slice A5 xs.length c7] 58)
          have q0 := blk_cell hx6 0
          have q1 := blk_cell hx6 1
          have q2 := blk_cell hx6 2
          have hb6' := ba hb5' (.cells #[.int .i64 R, .int .i64 C, .slice A5 xs.length c7] 58)
          have ra := hr45.below (ba (br w5) (.cells #[.int .i64 R, .int .i64 C, .slice A5 xs.length c7] 58))
          have rb := hr5.below (ba (br w5) (.cells #[.int .i64 R, .int .i64 C, .slice A5 xs.length c7] 58))
          have HRA := Lib.hid (And.intro ra rb)
          have hlt45 : w4.heap.size < w5.heap.size := blk_lt hx5
          clear ra rb hx6 hx5 hx4 hr4 hr5 hr45 hb5 hb4' hb5'
          go_wp2_with fail
          refine (same_yes R C A4 A5 xs.length c4 c7 xs _ HRA.out.1 HRA.out.2).mono ?_
          rintro e w6 ⟨rfl, hb6⟩
          have hb7 := bt hb6' hb6
          clear q0 q1 q2
          rcases HCS2.out with ⟨rfl, rfl⟩ | ⟨rfl, rfl⟩
          all_goals
            go_wp2
            go_ret
            exact ⟨rfl, hb7⟩
  · go_enter Try.func9, Try.ntmps9
    go_wp2_with fail
    refine (alive _).mono ?_
    rintro e w1 ⟨rfl, hb1⟩
    go_wp2
    go_ret
    exact ⟨rfl, hb1⟩
end Go.Proofs.Ytcjnfdhdcoobgaa.Rif
