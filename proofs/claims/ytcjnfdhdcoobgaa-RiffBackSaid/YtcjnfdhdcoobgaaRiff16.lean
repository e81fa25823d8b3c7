/- The walk of the document's Parse of a song. -/
import Derived.Test.YtcjnfdhdcoobgaaRiff15
set_option linter.unusedVariables false
set_option linter.unusedSimpArgs false
namespace Go.Proofs.Ytcjnfdhdcoobgaa.Rif
open Go.RowKit Go.Proofs.YtcjnfdhdcoobgaaW.PrintWords Go.Proofs.YtcjnfdhdcoobgaaW.PrintLast Go.Proofs.YtcjnfdhdcoobgaaW.PrintMore Go.Proofs.Ytcjnfdhdcoobgaa.Chk

def RParseOut (o : Option (Int × Int × List Int)) (w : World) (e : Ending) (w' : World) : Prop :=
  match o with
  | none => e = .returned (.tuple #[.agg #[.int .i64 0, .int .i64 0, .slice none 0 0], .bool false]) ∧ Below w.heap.size w w'
  | some (R, C, xs) => ∃ A c, e = .returned (.tuple #[.agg #[.int .i64 R, .int .i64 C, .slice A xs.length c], .bool true]) ∧ w'.ownsRow w.heap.size 109 1 (.slice A xs.length c) xs.length (nums .i16 xs) ∧ Below w.heap.size w w'

theorem i16_in (v : Nat) (h : v < 65536) : -32768 ≤ i16 v ∧ i16 v ≤ 32767 := by unfold i16; split <;> omega
theorem smpD_in {d : List Int} (hd : Bytes d) (k : Nat) : ∀ x ∈ smpD d k, -32768 ≤ x ∧ x ≤ 32767 := by
  intro x hx
  obtain ⟨i, -, rfl⟩ := List.mem_map.1 hx
  apply i16_in
  have h1 := leV_lt ((hd.take (2 * i + 2)).drop (2 * i))
  have h2 : ((d.take (2 * i + 2)).drop (2 * i)).length ≤ 2 := by rw [List.length_drop, List.length_take]; omega
  exact Nat.lt_of_lt_of_le h1 (Nat.pow_le_pow_right (n := 256) (j := 2) (by decide) h2)
/-- the rate that is found among the first k -/
def rk (N : Int) : Nat → Int
  | 0 => -1
  | k + 1 => if sec k = N then k else rk N k
theorem rk_four (N : Int) : rk N 4 = rateOf N := by
  show (if sec 3 = N then (3 : Int) else if sec 2 = N then 2 else if sec 1 = N then 1 else if sec 0 = N then 0 else -1) = _
  show (if (48000 : Int) = N then (3 : Int) else if (44100 : Int) = N then 2 else if (32000 : Int) = N then 1 else if (16000 : Int) = N then 0 else -1) = _
  unfold rateOf
  by_cases h0 : N = 16000
  · subst h0; rfl
  by_cases h1 : N = 32000
  · subst h1; rfl
  by_cases h2 : N = 44100
  · subst h2; rfl
  by_cases h3 : N = 48000
  · subst h3; rfl
  rw [if_neg h0, if_neg h1, if_neg h2, if_neg h3, if_neg (Ne.symm h0), if_neg (Ne.symm h1), if_neg (Ne.symm h2), if_neg (Ne.symm h3)]
set_option maxRecDepth 100000 in
set_option maxHeartbeats 8000000 in
theorem rparse_any (s : ByteArray) (w : World) (hs : s.size ≤ 4096) : Calls Try.prog 42 #[.string s] w (RParseOut (parseP (bytesOf s)) w) := by
  have hB := bytesOf_byte s
  have hM := bytesOf_length s
  have T := rchunks_one s (w.alloc (.cells #[.int .i64 0, .int .i64 0, .slice none 0 0] 58)) hs
  have HPP := Lib.hid (fun ps h => files_props (bytesOf s) ps h hB)
  have HZ := Lib.hid (heap_alloc_new w (.cells #[.int .i64 0, .int .i64 0, .slice none 0 0] 58))
  obtain ⟨M, hMd⟩ : ∃ M, M = bytesOf s := ⟨_, rfl⟩
  rw [← hMd] at T HPP hM ⊢
  have hMl : M.length ≤ 4096 := by omega
  clear hB hM hMd
  go_enter Try.func42, Try.ntmps42
  go_wp2_with fail
  refine T.mono ?_
  rintro e w1 ⟨A', c', ps, rfl, hcase, hR, hb1⟩
  clear T
  have hb1' : Below w.heap.size w w1 := bt (ba (br w) _) hb1
  have hz1 := (hb1.block _ (blk_lt HZ.out)).trans HZ.out
  have x0 := blk_cell hz1 0
  have x1 := blk_cell hz1 1
  have x2 := blk_cell hz1 2
  have t0 := blk_frozen hz1 0
  have t1 := blk_frozen hz1 1
  have t2 := blk_frozen hz1 2
  rcases hcase with ⟨hc1, rfl⟩ | hc1
  · have HN : Hid (parseP M = none) := by show _ = _; unfold parseP; rw [hc1]; rfl
    have hok : (filesP M).isSome = false := by rw [hc1]; rfl
    rw [hok]
    clear hc1 hok HPP
    go_wp2
    exact bodyPost_ret (v := .tuple #[.agg #[.int .i64 0, .int .i64 0, .slice none 0 0], .bool false]) (results_ct Try.results42 _ _ w.heap.size _ _ _ _ rfl (set3 hz1 _ _ _) Try.underlying58 rfl (by kernel_rfl)) rfl (by rw [HN.out]; exact ⟨rfl, below3 hb1' (Nat.le_refl _) _ _ _⟩)
  have HP : Hid (parseP M = twoP (ps.filter isPart)) := by show _ = _; unfold parseP; rw [hc1]; rfl
  obtain ⟨hq1, hq2⟩ := HPP.out ps hc1
  have HQ := Lib.hid hq1
  have hpl : ps.length ≤ 512 := by omega
  have hok : (filesP M).isSome = true := by rw [hc1]; rfl
  rw [hok]
  clear hc1 hok HPP hq1 hq2
  go_wp2
  clear x0 x1 x2 t0 t1 t2
  go_loopg [6, 7, 8] ps.length (fun gk f d x W => ∃ (k : Nat) (fo da : Int), k ≤ ps.length ∧ gk = ps.length - k ∧ x = .int .i64 (2 * (k : Int)) ∧ f = .int .i64 fo ∧ d = .int .i64 da ∧ -1 ≤ fo ∧ fo ≤ 1024 ∧ -1 ≤ da ∧ da ≤ 1024 ∧ Hid (Found ps ((ps.take k).filter isPart) fo da) ∧ W = w1)
  case atStart => exact ⟨0, -1, -1, by omega, by omega, rfl, rfl, rfl, by omega, by omega, by omega, by omega, .inl ⟨rfl, rfl, rfl⟩, rfl⟩
  case round =>
    obtain ⟨k, fo, da, hk, rfl, rfl, rfl, rfl, hf0, hf1, hd0, hd1, HF, rfl⟩ := hrel
    by_cases hlt : k < ps.length
    · obtain ⟨ad, rfl, y1, y2⟩ := hR k hlt
      have x0 := blk_cell hz1 0
      have x1 := blk_cell hz1 1
      have x2 := blk_cell hz1 2
      have t0 := blk_frozen hz1 0
      have t1 := blk_frozen hz1 1
      have t2 := blk_frozen hz1 2
      have hQ := (HQ.out ps[k] (List.getElem_mem hlt)).1
      have g1 := str4 hQ fmtL (by intro x hx; simp [fmtL] at hx; omega) 102 109 116 32 rfl
      have g2 := str4 hQ dataL (by intro x hx; simp [dataL] at hx; omega) 100 97 116 97 rfl
      have HT := Lib.hid (take_parts ps k hlt)
      have HS := Lib.hid (parts_split ps k hlt)
      have HK : Hid (ps[k]? = some ps[k]) := List.getElem?_eq_getElem hlt
      have dlt : decide (2 * (k : Int) < (ps.length : Int) * 2) = true := decide_eq_true (by omega)
      have i1 : (2 * (k : Int)).toNat = 2 * k := by omega
      have i2 : 0 ≤ 2 * (k : Int) := by omega
      have i3 : 2 * (k : Int) < (ps.length : Int) * 2 := by omega
      generalize ps[k] = p at y1 y2 hQ g1 g2 HT HS HK
      obtain ⟨nm, ys⟩ := p
      change ((strOfNums nm).toList == [102, 109, 116, 32]) = decide (nm = fmtL) at g1
      change ((strOfNums nm).toList == [100, 97, 116, 97]) = decide (nm = dataL) at g2
      change Hid (_ = _ ++ if (decide (nm = fmtL) || decide (nm = dataL)) = true then _ else _) at HT
      change Hid (_ = _ ++ ((if (decide (nm = fmtL) || decide (nm = dataL)) = true then _ else _) ++ _)) at HS
      generalize strOfNums nm = sn at y1 g1 g2
      rcases Classical.em (nm = fmtL) with e1 | e1
      · have e2 : ¬ nm = dataL := fun h => fmt_ne (by rw [← e1, h])
        rw [decide_eq_true e1] at g1 HT HS
        rw [decide_eq_false e2] at g2 HT HS
        have E1 := Lib.hid e1
        clear e1 e2 hQ
        rcases Int.lt_or_le fo 0 with hfo | hfo
        · rcases Int.lt_or_le da 0 with hda | hda
          · go_wp2
            go_roundg (ps.length - (k + 1))
            case measure => omega
            case rel => exact ⟨k + 1, 2 * (k : Int) + 1, da, by omega, rfl, by congr 1, rfl, rfl, by omega, by omega, by omega, by omega, by have h := HF.out.form E1.out HK.out hfo hda; rw [HT.out, if_pos (by decide)]; exact h, rfl⟩
          · have HN : Hid (parseP M = none) := by show _ = _; rw [HP.out, HS.out, if_pos (by decide)]; exact HF.out.bad_form E1.out (.inr hda)
            go_wp2
            exact bodyPost_ret (v := .tuple #[.agg #[.int .i64 0, .int .i64 0, .slice none 0 0], .bool false]) (results_ct Try.results42 _ _ w.heap.size _ _ _ _ rfl (set3 hz1 _ _ _) Try.underlying58 rfl (by kernel_rfl)) rfl (by rw [HN.out]; exact ⟨rfl, below3 hb1' (Nat.le_refl _) _ _ _⟩)
        · have HN : Hid (parseP M = none) := by show _ = _; rw [HP.out, HS.out, if_pos (by decide)]; exact HF.out.bad_form E1.out (.inl hfo)
          go_wp2
          exact bodyPost_ret (v := .tuple #[.agg #[.int .i64 0, .int .i64 0, .slice none 0 0], .bool false]) (results_ct Try.results42 _ _ w.heap.size _ _ _ _ rfl (set3 hz1 _ _ _) Try.underlying58 rfl (by kernel_rfl)) rfl (by rw [HN.out]; exact ⟨rfl, below3 hb1' (Nat.le_refl _) _ _ _⟩)
      · rw [decide_eq_false e1] at g1 HT HS
        clear e1
        rcases Classical.em (nm = dataL) with e2 | e2
        · rw [decide_eq_true e2] at g2 HT HS
          have E2 := Lib.hid e2
          clear e2 hQ
          rcases Int.lt_or_le da 0 with hda | hda
          · go_wp2
            go_roundg (ps.length - (k + 1))
            case measure => omega
            case rel => exact ⟨k + 1, fo, 2 * (k : Int) + 1, by omega, rfl, by congr 1, rfl, rfl, by omega, by omega, by omega, by omega, by have h := HF.out.data E2.out HK.out hda; rw [HT.out, if_pos (by decide)]; exact h, rfl⟩
          · have HN : Hid (parseP M = none) := by show _ = _; rw [HP.out, HS.out, if_pos (by decide)]; exact HF.out.bad_data E2.out hda
            go_wp2
            exact bodyPost_ret (v := .tuple #[.agg #[.int .i64 0, .int .i64 0, .slice none 0 0], .bool false]) (results_ct Try.results42 _ _ w.heap.size _ _ _ _ rfl (set3 hz1 _ _ _) Try.underlying58 rfl (by kernel_rfl)) rfl (by rw [HN.out]; exact ⟨rfl, below3 hb1' (Nat.le_refl _) _ _ _⟩)
        · rw [decide_eq_false e2] at g2 HT HS
          clear e2 hQ
          go_wp2
          go_roundg (ps.length - (k + 1))
          case measure => omega
          case rel => exact ⟨k + 1, fo, da, by omega, rfl, by congr 1, rfl, rfl, by omega, by omega, by omega, by omega, by have h := HF.out; rw [HT.out, if_neg (by decide), List.append_nil]; exact h, rfl⟩
    · obtain rfl : k = ps.length := by omega
      have dlt : decide (2 * (ps.length : Int) < (ps.length : Int) * 2) = false := decide_eq_false (by omega)
      have HFA : Hid (Found ps (ps.filter isPart) fo da) := by have h := HF.out; rw [List.take_length] at h; exact h
      clear HF hlt hk
      have x0 := blk_cell hz1 0
      have x1 := blk_cell hz1 1
      have x2 := blk_cell hz1 2
      have t0 := blk_frozen hz1 0
      have t1 := blk_frozen hz1 1
      have t2 := blk_frozen hz1 2
      rcases Int.lt_or_le fo 0 with hfo | hfo
      · have HN : Hid (parseP M = none) := by show _ = _; rw [HP.out]; exact HFA.out.none_ (.inl hfo)
        go_wp2
        exact bodyPost_ret (v := .tuple #[.agg #[.int .i64 0, .int .i64 0, .slice none 0 0], .bool false]) (results_ct Try.results42 _ _ w.heap.size _ _ _ _ rfl (set3 hz1 _ _ _) Try.underlying58 rfl (by kernel_rfl)) rfl (by rw [HN.out]; exact ⟨rfl, below3 hb1' (Nat.le_refl _) _ _ _⟩)
      rcases Int.lt_or_le da 0 with hda | hda
      · have HN : Hid (parseP M = none) := by show _ = _; rw [HP.out]; exact HFA.out.none_ (.inr hda)
        go_wp2
        exact bodyPost_ret (v := .tuple #[.agg #[.int .i64 0, .int .i64 0, .slice none 0 0], .bool false]) (results_ct Try.results42 _ _ w.heap.size _ _ _ _ rfl (set3 hz1 _ _ _) Try.underlying58 rfl (by kernel_rfl)) rfl (by rw [HN.out]; exact ⟨rfl, below3 hb1' (Nat.le_refl _) _ _ _⟩)
      obtain ⟨ia, a, ib, b, hia, hib, hfe, hde, htw⟩ := HFA.out.both_ hfo hda
      obtain rfl : fo = ((2 * ia + 1 : Nat) : Int) := by omega
      obtain rfl : da = ((2 * ib + 1 : Nat) : Int) := by omega
      have hal : ia < ps.length := (List.getElem?_eq_some_iff.1 hia).1
      have hbl : ib < ps.length := (List.getElem?_eq_some_iff.1 hib).1
      have hae : ps[ia] = a := (List.getElem?_eq_some_iff.1 hia).2
      have hbe : ps[ib] = b := (List.getElem?_eq_some_iff.1 hib).2
      have HN : Hid (parseP M = songP a.2 b.2) := by show _ = _; rw [HP.out]; exact htw
      obtain ⟨ad, rfl, -, y1⟩ := hR ia hal
      obtain ⟨ad', e', -, y2⟩ := hR ib hbl
      injection e' with e'
      subst e'
      have hqa := HQ.out _ (List.getElem_mem hal)
      have hqb := HQ.out _ (List.getElem_mem hbl)
      rw [hae] at y1 hqa
      rw [hbe] at y2 hqb
      obtain ⟨-, hBf, hlf, -⟩ := hqa
      obtain ⟨-, hBd, hld, -⟩ := hqb
      obtain ⟨na, fl⟩ := a
      obtain ⟨nb, dl⟩ := b
      change Hid (parseP M = songP fl dl) at HN
      change wr.cell? (ad.add (2 * ia + 1)) = some (.string (strOfNums fl)) at y1
      change wr.cell? (ad.add (2 * ib + 1)) = some (.string (strOfNums dl)) at y2
      change Bytes fl at hBf
      change Bytes dl at hBd
      change fl.length ≤ M.length at hlf
      change dl.length ≤ M.length at hld
      have hsf := strOfNums_size fl
      have hsd := strOfNums_size dl
      have hbF := bytesOf_str hBf
      have hbD := bytesOf_str hBd
      generalize strOfNums fl = F at y1 hsf hbF
      generalize strOfNums dl = D at y2 hsd hbD
      have HFF := Lib.hid (And.intro hsf hbF)
      have HDD := Lib.hid (And.intro hsd hbD)
      have HBB := Lib.hid (And.intro hBf hBd)
      have hFl : F.size ≤ 4096 := by omega
      have hDl : D.size ≤ 4096 := by omega
      have i3 : 2 * ia + 1 < ps.length * 2 := by omega
      have j3 : 2 * ib + 1 < ps.length * 2 := by omega
      generalize 2 * ia + 1 = ja at y1 i3 hfo hf0 hf1 hfe ⊢
      generalize 2 * ib + 1 = jb at y2 j3 hda hd0 hd1 hde ⊢
      have i4 : (ja : Int) < (ps.length : Int) * 2 := by omega
      have j4 : (jb : Int) < (ps.length : Int) * 2 := by omega
      clear hfe hde hia hib hae hbe htw HFA HP HQ hBf hBd hlf hld hsf hsd hbF hbD hR hf0 hf1 hd0 hd1
      go_upto_region 18 with fail
      go_quiet (fail)
      clear y1 y2 i3 j3 i4 j4
      have hzx : (wr.drewN nq).heap[w.heap.size]? = some (.cells #[.int .i64 0, .int .i64 0, .slice none 0 0] 58 (0, 0)) := hz1
      have hbx : Below w.heap.size w (wr.drewN nq) := below_drewN hb1' nq
      clear x0 x1 x2 t0 t1 t2 hz1 hb1' hb1
      generalize wr.drewN nq = wx at hzx hbx ⊢
      have x0 := blk_cell hzx 0
      have x1 := blk_cell hzx 1
      have x2 := blk_cell hzx 2
      have t0 := blk_frozen hzx 0
      have t1 := blk_frozen hzx 1
      have t2 := blk_frozen hzx 2
      rcases Classical.em (¬ fl.length = 16) with h16 | h16
      · have HN2 : Hid (parseP M = none) := by show _ = _; rw [HN.out]; unfold songP; rw [if_neg (fun h => h16 h.1)]
        have b0 : ((F.size : Int) != 16) = true := bne_iff_ne.2 (by have := HFF.out.1; omega)
        clear h16
        go_wp2
        exact bodyPost_ret (v := .tuple #[.agg #[.int .i64 0, .int .i64 0, .slice none 0 0], .bool false]) (results_ct Try.results42 _ _ w.heap.size _ _ _ _ rfl (set3 hzx _ _ _) Try.underlying58 rfl (by kernel_rfl)) rfl (by rw [HN2.out]; exact ⟨rfl, below3 hbx (Nat.le_refl _) _ _ _⟩)
      replace h16 := Classical.not_not.1 h16
      have b0 : ((F.size : Int) != 16) = false := bne_eq_false_iff_eq.2 (by have := HFF.out.1; omega)
      rcases Nat.mod_two_eq_zero_or_one dl.length with h2 | h2
      · have b1 : (D.size : Int) % 2 = 0 := by have := HDD.out.1; omega
        have H16 := Lib.hid (And.intro h16 h2)
        have c24 : ∀ W : World, (Instr.slice 9 (.string F) (some (.int .i64 2)) (some (.int .i64 4)) none).run Try.prog W = .ok (.string (strOfNums ((fl.take 4).drop 2))) W := fun W => by
          have h := cutS F 2 4 (by omega) (by omega) (by have := HFF.out.1; omega) W
          rw [HFF.out.2] at h
          exact h
        have c48 : ∀ W : World, (Instr.slice 9 (.string F) (some (.int .i64 4)) (some (.int .i64 8)) none).run Try.prog W = .ok (.string (strOfNums ((fl.take 8).drop 4))) W := fun W => by
          have h := cutS F 4 8 (by omega) (by omega) (by have := HFF.out.1; omega) W
          rw [HFF.out.2] at h
          exact h
        have l24 : ((fl.take 4).drop 2).length = 2 := by rw [List.length_drop, List.length_take]; omega
        have l48 : ((fl.take 8).drop 4).length = 4 := by rw [List.length_drop, List.length_take]; omega
        have T24 := fun W => rnumber_any (strOfNums ((fl.take 4).drop 2)) (by rw [strOfNums_size]; omega) W
        have T48 := fun W => rnumber_any (strOfNums ((fl.take 8).drop 4)) (by rw [strOfNums_size]; omega) W
        simp only [bytesOf_str ((HBB.out.1.take 4).drop 2)] at T24
        simp only [bytesOf_str ((HBB.out.1.take 8).drop 4)] at T48
        have hC0 := leV_lt ((HBB.out.1.take 4).drop 2)
        rw [l24] at hC0
        have HCR : Hid (songC fl = (leV ((fl.take 4).drop 2) : Int) ∧ songR fl = rateOf (leV ((fl.take 8).drop 4) : Int)) := ⟨rfl, rfl⟩
        generalize leV ((fl.take 4).drop 2) = C at T24 hC0 HCR
        generalize leV ((fl.take 8).drop 4) = N at T48 HCR
        generalize strOfNums ((fl.take 4).drop 2) = S24 at c24 T24
        generalize strOfNums ((fl.take 8).drop 4) = S48 at c48 T48
        have HT48 := Lib.hid T48
        have HC48 := Lib.hid c48
        clear h16 h2 l24 l48 T48 c48
        go_wp2_with fail
        refine (T24 _).mono ?_
        rintro e w3 ⟨rfl, rfl⟩
        clear T24 c24 x0 x1 x2 t0 t1 t2 b0
        have hxb := heap_alloc_new w3 (.cells #[.int .i64 (-1), .int .i64 C, .slice none 0 0] 58)
        have hxz := blk_alloc hzx (.cells #[.int .i64 (-1), .int .i64 C, .slice none 0 0] 58)
        have hbz := ba hbx (.cells #[.int .i64 (-1), .int .i64 C, .slice none 0 0] 58)
        have hlt3 : w.heap.size < w3.heap.size := blk_lt hzx
        go_wp2
        go_loopg [12] 4 (fun gk x W => ∃ k : Nat, k ≤ 4 ∧ gk = 4 - k ∧ x = .int .i64 k ∧ W.heap[w3.heap.size]? = some (.cells #[.int .i64 (rk N k), .int .i64 C, .slice none 0 0] 58 (0, 0)) ∧ W.heap[w.heap.size]? = some (.cells #[.int .i64 0, .int .i64 0, .slice none 0 0] 58 (0, 0)) ∧ Below w.heap.size w W)
        case atStart => exact ⟨0, by omega, rfl, rfl, hxb, hxz, hbz⟩
        case round =>
          clear hxb hxz hbz
          obtain ⟨k, hk, rfl, rfl, hxb, hxz, hbz⟩ := hrel
          have c48 := HC48.out
          have T48 := HT48.out
          by_cases hlt : k < 4
          · have HRK : Hid (rk N (k + 1) = if sec k = N then (k : Int) else rk N k) := rfl
            have TS := fun W => rsecond_any (k : Int) W
            obtain ⟨sk, hsk⟩ : ∃ sk, sk = sec k := ⟨_, rfl⟩
            rw [← hsk] at TS HRK
            generalize rk N k = r at hxb HRK
            have y0 := blk_cell hxb 0
            have z0 := blk_frozen hxb 0
            rcases Classical.em (sk = N) with he | he
            · have be : (sk == (N : Int)) = true := beq_iff_eq.2 he
              rw [if_pos he] at HRK
              have HTS := Lib.hid TS
              clear he TS hsk
              go_upto_region 25 with fail
              go_quiet ((first | (go_at_call 66; exact Calls.quiet_of_same (HTS.out _)) | (go_at_call 71; exact Calls.quiet_of_same (T48 _))))
              go_wp2
              go_roundg (4 - (k + 1))
              case measure => omega
              case rel => exact ⟨k + 1, by omega, rfl, by go_num, by rw [HRK.out]; exact (blk_set (w := wr.drewN _) hxb 0 _).trans rfl, (Below.heap_setCell _ ⟨w3.heap.size, 0, none⟩ _ _ (by show w.heap.size ≠ w3.heap.size; omega)).trans hxz, (below_drewN hbz _).setCell (p := ⟨w3.heap.size, 0, none⟩) (by show w.heap.size ≤ w3.heap.size; omega) _⟩
            · have be : (sk == (N : Int)) = false := beq_eq_false_iff_ne.2 he
              rw [if_neg he] at HRK
              have HTS := Lib.hid TS
              clear he TS hsk
              go_upto_region 25 with fail
              go_quiet ((first | (go_at_call 66; exact Calls.quiet_of_same (HTS.out _)) | (go_at_call 71; exact Calls.quiet_of_same (T48 _))))
              go_wp2
              go_roundg (4 - (k + 1))
              case measure => omega
              case rel => exact ⟨k + 1, by omega, rfl, by go_num, by rw [HRK.out]; exact hxb, hxz, below_drewN hbz _⟩
          · obtain rfl : k = 4 := by omega
            rw [rk_four, ← HCR.out.2] at hxb
            clear c48 T48 HC48 HT48 hlt hk
            have HCR1 := Lib.hid HCR.out.1
            clear HCR
            go_wp2
            go_loopg [13, 14] (D.size / 2) (fun gk x y W => ∃ (k : Nat) (A' : Option Addr) (c' : Nat), 2 * k ≤ D.size ∧ gk = D.size / 2 - k ∧ x = .int .i64 (2 * (k : Int)) ∧ W.heap[w3.heap.size]? = some (.cells #[.int .i64 (songR fl), .int .i64 C, .slice A' k c'] 58 (0, 0)) ∧ W.ownsRow w.heap.size 109 1 (.slice A' k c') k (nums .i16 (smpD dl k)) ∧ W.heap[w.heap.size]? = some (.cells #[.int .i64 0, .int .i64 0, .slice none 0 0] 58 (0, 0)) ∧ Below w.heap.size w W)
            case atStart => exact ⟨0, none, 0, by omega, by omega, rfl, hxb, World.ownsRow_nil _ _ _ _, hxz, hbz⟩
            case round =>
              clear hxb hxz hbz
              obtain ⟨k, A', c6, hk, rfl, rfl, hxb, hown, hxz, hbz⟩ := hrel
              have y0 := blk_cell hxb 0
              have y1 := blk_cell hxb 1
              have y2 := blk_cell hxb 2
              by_cases hlt : 2 * k < D.size
              · have d1 : decide (2 * (k : Int) < (D.size : Int)) = true := decide_eq_true (by omega)
                have hd2 : 2 * k + 2 ≤ D.size := by have := HDD.out.1; have := H16.out.2; omega
                have u1 : ∀ W : World, (Instr.slice 9 (.string D) (some (.int .i64 (2 * (k : Int)))) (some (.int .i64 (2 * (k : Int) + 2))) none).run Try.prog W = .ok (.string (strOfNums ((dl.take (2 * k + 2)).drop (2 * k)))) W := fun W => by
                  have h := cutS D (2 * (k : Int)) (2 * (k : Int) + 2) (by omega) (by omega) (by omega) W
                  rw [HDD.out.2, show (2 * (k : Int) + 2).toNat = 2 * k + 2 from by omega, show (2 * (k : Int)).toNat = 2 * k from by omega] at h
                  exact h
                have l2 : ((dl.take (2 * k + 2)).drop (2 * k)).length = 2 := by have := HDD.out.1; rw [List.length_drop, List.length_take]; omega
                have TN := fun W => rnumber_any (strOfNums ((dl.take (2 * k + 2)).drop (2 * k))) (by rw [strOfNums_size]; omega) W
                simp only [bytesOf_str ((HBB.out.2.take (2 * k + 2)).drop (2 * k))] at TN
                have hV0 := leV_lt ((HBB.out.2.take (2 * k + 2)).drop (2 * k))
                rw [l2] at hV0
                have HSS := Lib.hid (smpD_succ dl k)
                generalize leV ((dl.take (2 * k + 2)).drop (2 * k)) = V at TN hV0 HSS
                generalize strOfNums ((dl.take (2 * k + 2)).drop (2 * k)) = S2 at u1 TN
                have hV : V < 65536 := hV0
                have HTN := Lib.hid TN
                have HNE := Lib.hid (own_ne hown hxb (by decide))
                have HNZ := Lib.hid (own_ne hown hxz (by decide))
                generalize smpD dl k = L at hown HSS
                have hsz := hbz.size
                clear TN hV0 l2
                go_wp2_with fail
                refine (HTN.out _).mono ?_
                rintro e w4 ⟨rfl, rfl⟩
                rcases Nat.lt_or_ge 32767 V with hg | hg
                · have HI : Hid (i16 V = (V : Int) - 65536) := by show _ = _; unfold i16; rw [if_pos hg]
                  go_wp2_with (at_builtin; go_loud (refine print_append_cells w.heap.size rfl (.tmp 111) (.tmp 114) 56 109 (.int .i16 0) 1 2 rfl Try.underlying56 info16 rfl (by decide) (by decide) _ k (nums .i16 L) [.int .i16 ((V : Int) - 65536)] rfl rfl rfl (by intro u hu; simp only [List.mem_singleton] at hu; subst hu; rfl) hown hbz hsz (by omega) ?_); intro v6 w6 hown6 hb6 hg6 hat6; have k2 := (blk_grown hxb hg6 HNE.out); have kz := (blk_grown hxz hg6 HNZ.out); have kc := blk_cell k2 2; have kf := blk_frozen k2 2; obtain ⟨A3, c3, rfl⟩ := own_slice hown6)
                  go_roundg (D.size / 2 - (k + 1))
                  case measure => omega
                  case rel =>
                    refine ⟨k + 1, A3, c3, by omega, rfl, by congr 1, ?_, ?_, (Below.heap_setCell w6 ⟨w3.heap.size, 2, none⟩ _ _ (by show w.heap.size ≠ w3.heap.size; omega)).trans kz, hb6.setCell (p := ⟨w3.heap.size, 2, none⟩) (by show w.heap.size ≤ w3.heap.size; omega) _⟩
                    · exact (blk_set k2 2 _).trans rfl
                    · rw [HSS.out, HI.out, nums_append]
                      exact own_setCell hown6 (own_ne hown6 k2 (by decide)) _
                · have HI : Hid (i16 V = (V : Int)) := by show _ = _; unfold i16; rw [if_neg (by omega)]
                  go_wp2_with (at_builtin; go_loud (refine print_append_cells w.heap.size rfl (.tmp 111) (.tmp 114) 56 109 (.int .i16 0) 1 2 rfl Try.underlying56 info16 rfl (by decide) (by decide) _ k (nums .i16 L) [.int .i16 ((V : Int))] rfl rfl rfl (by intro u hu; simp only [List.mem_singleton] at hu; subst hu; rfl) hown hbz hsz (by omega) ?_); intro v6 w6 hown6 hb6 hg6 hat6; have k2 := (blk_grown hxb hg6 HNE.out); have kz := (blk_grown hxz hg6 HNZ.out); have kc := blk_cell k2 2; have kf := blk_frozen k2 2; obtain ⟨A3, c3, rfl⟩ := own_slice hown6)
                  go_roundg (D.size / 2 - (k + 1))
                  case measure => omega
                  case rel =>
                    refine ⟨k + 1, A3, c3, by omega, rfl, by congr 1, ?_, ?_, (Below.heap_setCell w6 ⟨w3.heap.size, 2, none⟩ _ _ (by show w.heap.size ≠ w3.heap.size; omega)).trans kz, hb6.setCell (p := ⟨w3.heap.size, 2, none⟩) (by show w.heap.size ≤ w3.heap.size; omega) _⟩
                    · exact (blk_set k2 2 _).trans rfl
                    · rw [HSS.out, HI.out, nums_append]
                      exact own_setCell hown6 (own_ne hown6 k2 (by decide)) _
              · have d1 : decide (2 * (k : Int) < (D.size : Int)) = false := decide_eq_false (by omega)
                have hkk : dl.length / 2 = k := by have := HDD.out.1; omega
                have hxl : (songS dl).length = k := by unfold songS; rw [smpD_length, hkk]
                have hxs : smpD dl k = songS dl := by unfold songS; rw [hkk]
                have hin := smpD_in HBB.out.2 k
                rw [hxs] at hown hin
                have hrd := own_reads' hown
                have HP2 : Hid (parseP M = if May (songR fl) C k ∧ formL (songR fl) C = fl then some (songR fl, (C : Int), songS dl) else none) := by
                  show _ = _
                  rw [HN.out]
                  unfold songP
                  rw [hxl, HCR1.out]
                  by_cases hm : May (songR fl) (C : Int) k ∧ formL (songR fl) (C : Int) = fl
                  · rw [if_pos hm, if_pos ⟨H16.out.1, H16.out.2, hm⟩]
                  · rw [if_neg hm, if_neg (fun h => hm h.2.2)]
                have HXL := Lib.hid hxl
                have hFs : strOfNums fl = F := by rw [← HFF.out.2, str_bytesOf]
                have hFS := Lib.hid hFs
                clear hkk hxl hxs HN HCR1 hFs hlt
                generalize songS dl = xs at hown hrd HP2 HXL hin
                generalize songR fl = R at hxb y0 HP2
                have T := rcheck_any R C A' k c6 wr (by omega)
                have hz3 := blk_cell hxz 0
                rcases Classical.em (¬ May R C k) with hm | hm
                · have HN : Hid (parseP M = none) := by show _ = _; rw [HP2.out, if_neg (fun h => hm h.1)]
                  rw [decide_eq_false hm] at T
                  clear hm HP2 hin hrd hz3
                  go_wp2_with fail
                  refine T.mono ?_
                  rintro e w4 ⟨rfl, hb4⟩
                  have hz4 := (hb4.block _ (blk_lt hxz)).trans hxz
                  have x0 := blk_cell hz4 0
                  have x1 := blk_cell hz4 1
                  have x2 := blk_cell hz4 2
                  have t0 := blk_frozen hz4 0
                  have t1 := blk_frozen hz4 1
                  have t2 := blk_frozen hz4 2
                  have hbw4 := bt hbz hb4
                  clear T y0 y1 y2
                  go_wp2
                  exact bodyPost_ret (v := .tuple #[.agg #[.int .i64 0, .int .i64 0, .slice none 0 0], .bool false]) (results_ct Try.results42 _ _ w.heap.size _ _ _ _ rfl (set3 hz4 _ _ _) Try.underlying58 rfl (by kernel_rfl)) rfl (by rw [HN.out]; exact ⟨rfl, below3 hbw4 (Nat.le_refl _) _ _ _⟩)
                · replace hm := Classical.not_not.1 hm
                  rw [decide_eq_true hm] at T
                  have HM := Lib.hid hm
                  have HIN := Lib.hid hin
                  have HRD := Lib.hid hrd
                  clear hm hin hrd hz3
                  go_wp2_with fail
                  refine T.mono ?_
                  rintro e w4 ⟨rfl, hb4⟩
                  have hz4 := (hb4.block _ (blk_lt hxz)).trans hxz
                  have hs4 := (hb4.block _ (blk_lt hxb)).trans hxb
                  have q0 := blk_cell hs4 0
                  have q1 := blk_cell hs4 1
                  have q2 := blk_cell hs4 2
                  have hbw4 := bt hbz hb4
                  have hown4 := pw_own_below hown hb4
                  have TB := rbytes_any R C A' k c6 xs w4 HM.out (HRD.out.below hb4) HIN.out
                  have hcut : ∀ W : World, (Instr.slice 9 (.string (strOfNums (riffL R C xs))) (some (.int .i64 20)) (some (.int .i64 36)) none).run Try.prog W = .ok (.string (strOfNums (formL R C))) W := fun W => by
                    have hl : (strOfNums (riffL R C xs)).size = 44 + 2 * xs.length := by
                      rw [strOfNums_size]
                      unfold riffL
                      rw [List.length_append, List.length_append, le_length, rest_length]
                      simp only [List.length_cons, List.length_nil]
                      omega
                    have h := cutS (strOfNums (riffL R C xs)) 20 36 (by omega) (by omega) (by rw [hl]; omega) W
                    rw [bytesOf_str (riff_byte R C xs)] at h
                    change _ = Result.ok (Value.string (strOfNums (((riffL R C xs).take 36).drop 20))) W at h
                    rw [riff_form] at h
                    exact h
                  have hcmp : ((strOfNums (formL R C)).toList == F.toList) = decide (formL R C = fl) := by rw [← hFS.out]; exact str_eq (formL_byte R C) HBB.out.1
                  have hrz : (strOfNums (riffL R C xs)).size = 44 + 2 * xs.length := by
                    rw [strOfNums_size]
                    unfold riffL
                    rw [List.length_append, List.length_append, le_length, rest_length]
                    simp only [List.length_cons, List.length_nil]
                    omega
                  generalize strOfNums (riffL R C xs) = TT at TB hcut hrz
                  generalize strOfNums (formL R C) = FF at hcut hcmp
                  have HCUT := Lib.hid hcut
                  have HRZ := Lib.hid hrz
                  clear T y0 y1 y2 hown hxz hxb hrz hcut
                  go_wp2_with fail
                  refine TB.mono ?_
                  rintro e w5 ⟨rfl, hb5⟩
                  have hz5 := (hb5.block _ (blk_lt hz4)).trans hz4
                  have hs5 := (hb5.block _ (blk_lt hs4)).trans hs4
                  have hbw5 := bt hbw4 hb5
                  have hown5 := pw_own_below hown4 hb5
                  have x0 := blk_cell hz5 0
                  have x1 := blk_cell hz5 1
                  have x2 := blk_cell hz5 2
                  have t0 := blk_frozen hz5 0
                  have t1 := blk_frozen hz5 1
                  have t2 := blk_frozen hz5 2
                  have r0 := blk_cell hs5 0
                  have r1 := blk_cell hs5 1
                  have r2 := blk_cell hs5 2
                  have HNW := Lib.hid (own_ne hown5 hz5 (by decide))
                  have hcut := HCUT.out
                  clear TB q0 q1 q2 hz4 hs4 hown4 hs5
                  rcases Classical.em (¬ formL R C = fl) with he | he
                  · have HN : Hid (parseP M = none) := by show _ = _; rw [HP2.out, if_neg (fun h => he h.2)]
                    rw [decide_eq_false he] at hcmp
                    clear he HP2
                    go_wp2
                    exact bodyPost_ret (v := .tuple #[.agg #[.int .i64 0, .int .i64 0, .slice none 0 0], .bool false]) (results_ct Try.results42 _ _ w.heap.size _ _ _ _ rfl (set3 hz5 _ _ _) Try.underlying58 rfl (by kernel_rfl)) rfl (by rw [HN.out]; exact ⟨rfl, below3 hbw5 (Nat.le_refl _) _ _ _⟩)
                  · replace he := Classical.not_not.1 he
                    have HN : Hid (parseP M = some (R, (C : Int), xs)) := by show _ = _; rw [HP2.out, if_pos ⟨HM.out, he⟩]
                    rw [decide_eq_true he] at hcmp
                    clear he HP2
                    go_wp2
                    exact bodyPost_ret (v := .tuple #[.agg #[.int .i64 R, .int .i64 C, .slice A' k c6], .bool true]) (results_ct Try.results42 _ _ w.heap.size _ _ _ _ rfl (set3 hz5 _ _ _) Try.underlying58 rfl (by kernel_rfl)) rfl (by
                      rw [HN.out]
                      refine ⟨A', c6, by rw [HXL.out], ?_, below3 hbw5 (Nat.le_refl _) _ _ _⟩
                      rw [HXL.out]
                      exact own_setCell (own_setCell (own_setCell hown5 HNW.out _) HNW.out _) HNW.out _)
      · have HN2 : Hid (parseP M = none) := by show _ = _; rw [HN.out]; unfold songP; rw [if_neg (fun h => by have := h.2.1; omega)]
        have b1 : (D.size : Int) % 2 = 1 := by have := HDD.out.1; omega
        clear h16 h2
        go_wp2
        exact bodyPost_ret (v := .tuple #[.agg #[.int .i64 0, .int .i64 0, .slice none 0 0], .bool false]) (results_ct Try.results42 _ _ w.heap.size _ _ _ _ rfl (set3 hzx _ _ _) Try.underlying58 rfl (by kernel_rfl)) rfl (by rw [HN2.out]; exact ⟨rfl, below3 hbx (Nat.le_refl _) _ _ _⟩)
end Go.Proofs.Ytcjnfdhdcoobgaa.Rif
