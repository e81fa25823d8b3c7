/- The walk of the package riff: Parse. -/
import Derived.Test.YtcjnfdhdcoobgaaRiff11
set_option linter.unusedVariables false
set_option linter.unusedSimpArgs false
namespace Go.Proofs.Ytcjnfdhdcoobgaa.Rif
open Go.RowKit Go.Proofs.YtcjnfdhdcoobgaaW.PrintWords Go.Proofs.YtcjnfdhdcoobgaaW.PrintLast Go.Proofs.YtcjnfdhdcoobgaaW.PrintMore Go.Proofs.Ytcjnfdhdcoobgaa.Chk

def ParseOut (o : Option (Int × Int × List Int)) (w : World) (e : Ending) (w' : World) : Prop :=
  match o with
  | none => e = .returned (.tuple #[.agg #[.int .i64 0, .int .i64 0, .slice none 0 0], .int .i64 140]) ∧ Below w.heap.size w w'
  | some (R, C, xs) => ∃ A c, e = .returned (.tuple #[.agg #[.int .i64 R, .int .i64 C, .slice A xs.length c], .int .i64 0]) ∧ w'.ownsRow w.heap.size 109 1 (.slice A xs.length c) xs.length (nums .i16 xs) ∧ Below w.heap.size w w'
/-- the parts among the first i pieces -/
def partsOf (qs : List PV) (i : Nat) : List PV := (qs.take i).filter fun q => isPart q.p
theorem partsOf_succ (qs : List PV) (i : Nat) (h : i < qs.length) : partsOf qs (i + 1) = partsOf qs i ++ (if isPart qs[i].p then [qs[i]] else []) := by
  unfold partsOf
  rw [List.take_succ_eq_append_getElem h, List.filter_append]
  congr 1
  by_cases hp : isPart qs[i].p
  · simp [hp]
  · simp [hp]
theorem partsOf_length (qs : List PV) (i : Nat) : (partsOf qs i).length ≤ qs.length := Nat.le_trans (List.length_filter_le _ _) (by rw [List.length_take]; omega)
theorem partsOf_mem {qs : List PV} {i : Nat} {q : PV} (h : q ∈ partsOf qs i) : q ∈ qs := List.mem_of_mem_take (List.mem_filter.1 h).1
theorem partsOf_all (qs : List PV) : (partsOf qs qs.length).map PV.p = (qs.map PV.p).filter isPart := by
  unfold partsOf
  rw [List.take_length, List.filter_map]
  rfl

theorem song_one (A B : Option Addr) (n m c d : Nat) (f s : List Int) (w : World) (hc : n ≤ c) (hd : m ≤ d) (hsl : s.length ≤ 20000) (hBf : Bytes f) (hBs : Bytes s) (hf : ReadsInt w .u8 A n f) (hs : ReadsInt w .u8 B m s) :
    Calls Try.prog 72 #[.slice A n c, .slice B m d] w fun e w' => ∃ (R C : Int) (A' : Option Addr) (c' : Nat) (xs : List Int) (ok : Bool), e = .returned (.tuple #[.agg #[.int .i64 R, .int .i64 C, .slice A' xs.length c'], .bool ok]) ∧ ((songP f s = none ∧ ok = false) ∨ (songP f s = some (R, C, xs) ∧ ok = true)) ∧ w'.ownsRow w.heap.size 109 1 (.slice A' xs.length c') xs.length (nums .i16 xs) ∧ Below w.heap.size w w' := by
  refine (song_any A B n m c d f s w (by rw [hf.1]; exact hc) (by rw [hs.1]; exact hd) hsl hBf hBs hf hs).mono fun e w' h => ?_
  unfold SongOut at h
  cases ho : songP f s with
  | none =>
    rw [ho] at h
    obtain ⟨rfl, hb⟩ := h
    exact ⟨0, 0, none, 0, [], false, rfl, .inl ⟨rfl, rfl⟩, World.ownsRow_nil _ _ _ _, hb⟩
  | some t =>
    obtain ⟨R, C, xs⟩ := t
    rw [ho] at h
    obtain ⟨A', c', rfl, hown, hb⟩ := h
    exact ⟨R, C, A', c', xs, true, rfl, .inr ⟨rfl, rfl⟩, hown, hb⟩
set_option maxRecDepth 100000 in
set_option maxHeartbeats 4000000 in
theorem parse_any (A : Option Addr) (n c : Nat) (M : List Int) (w : World) (hl : M.length ≤ 8192) (hc : M.length ≤ c) (hB : Bytes M) (hr : ReadsInt w .u8 A n M) :
    Calls Try.prog 41 #[.slice A n c] w (ParseOut (parseP M) w) := by
  have T := pieces_one A n c M (w.alloc (.cells #[.int .i64 0, .int .i64 0, .slice none 0 0] 60)) hl hc hB (hr.below (ba (br w) _))
  have HPP := Lib.hid (fun ps h => files_props M ps h hB)
  have hz0 := heap_alloc_new w (.cells #[.int .i64 0, .int .i64 0, .slice none 0 0] 60)
  have HZ := Lib.hid hz0
  clear hz0 hB hr
  go_enter Try.func41, Try.ntmps41
  go_wp2_with fail
  refine T.mono ?_
  rintro e w1 ⟨A', c', qs, rfl, hcase, hR, hok, hb1⟩
  clear T
  have hb1' : Below w.heap.size w w1 := bt (ba (br w) _) hb1
  have hz1 := (hb1.block _ (blk_lt HZ.out)).trans HZ.out
  have hql : qs.length ≤ 1024 ∧ ∀ q ∈ qs, Bytes q.p.1 ∧ Bytes q.p.2 ∧ q.p.2.length ≤ 8192 := by
    rcases hcase with ⟨-, rfl⟩ | h1
    · exact ⟨by simp, by simp⟩
    · obtain ⟨p1, p2⟩ := HPP.out _ h1
      rw [List.length_map] at p2
      refine ⟨by omega, fun q hq => ?_⟩
      obtain ⟨a, b, c, -⟩ := p1 q.p (List.mem_map_of_mem hq)
      exact ⟨a, b, by omega⟩
  have HQ := Lib.hid hql.2
  have hqn := hql.1
  have HOK := Lib.hid (fun q (hq : q ∈ qs) => (hok q hq))
  have HCASE := Lib.hid hcase
  obtain ⟨ok, hokd⟩ : ∃ ok, ok = (filesP M).isSome := ⟨_, rfl⟩
  rw [← hokd]
  have HOKD := Lib.hid hokd
  clear hql hok hcase HPP hokd
  go_wp2
  go_loopg [6, 17] qs.length (fun gk v x W => ∃ i : Nat, i ≤ qs.length ∧ gk = qs.length - i ∧ x = .int .i64 i ∧ W.ownsRow w1.heap.size 121 2 v (partsOf qs i).length (pcells (partsOf qs i)) ∧ Below w1.heap.size w1 W)
  case atStart => exact ⟨0, by omega, by omega, rfl, World.ownsRow_nil _ _ _ _, br w1⟩
  case round =>
    obtain ⟨i, hi, rfl, rfl, hown, hb⟩ := hrel
    by_cases hlt : i < qs.length
    · obtain ⟨ad, rfl, y1, y2⟩ := (hR.below hb) i hlt
      have hQ := (HQ.out qs[i] (List.getElem_mem hlt)).1
      have HT := Lib.hid (partsOf_succ qs i hlt)
      have hpl := partsOf_length qs i
      have g1 := str4 hQ fmtL (by intro x hx; simp [fmtL] at hx; omega) 102 109 116 32 rfl
      have g2 := str4 hQ dataL (by intro x hx; simp [dataL] at hx; omega) 100 97 116 97 rfl
      generalize hq : qs[i] = q at y1 y2 HT g1 g2
      obtain ⟨⟨nm, ys⟩, qA, qn, qc⟩ := q
      have HPC := Lib.hid (pcells_snoc (partsOf qs i) ⟨(nm, ys), qA, qn, qc⟩)
      change ((strOfNums nm).toList == [102, 109, 116, 32]) = decide (nm = fmtL) at g1
      change ((strOfNums nm).toList == [100, 97, 116, 97]) = decide (nm = dataL) at g2
      change Hid (_ = _ ++ if (decide (nm = fmtL) || decide (nm = dataL)) = true then _ else _) at HT
      generalize strOfNums nm = s at y1 HPC g1 g2
      generalize decide (nm = fmtL) = b1 at g1 HT
      generalize decide (nm = dataL) = b2 at g2 HT
      generalize partsOf qs i = L at hown HT hpl HPC
      obtain ⟨A5, c5, rfl⟩ := own_slice hown
      clear hq hQ
      rcases b1 with _ | _
      · rcases b2 with _ | _
        · go_wp2
          go_roundg (qs.length - (i + 1))
          case measure => omega
          case rel => exact ⟨i + 1, by omega, rfl, by go_num, by rw [HT.out, if_neg (by decide), List.append_nil]; exact own_alloc hown _, ba hb _⟩
        · go_wp2_with (at_builtin; go_loud (refine print_append_cells w1.heap.size rfl (.tmp 29) (.tmp 31) 117 121 (.agg #[.string ⟨#[]⟩, .slice none 0 0]) 2 40 rfl Try.underlying117 infoP rfl (by decide) (by decide) _ L.length (pcells L) [.string s, .slice qA qn qc] rfl (by show Value.slice (some ⟨wr.heap.size + 1, 0, none⟩) 1 1 = _; simp) rfl (by intro u hu; simp only [List.mem_cons, List.not_mem_nil, or_false] at hu; rcases hu with rfl | rfl <;> rfl) (own_alloc hown _) (ba hb _) (Nat.le_trans hb.size (by simp)) (by omega) ?_); intro v6 w6 hown6 hb6 hg6 hat6)
          go_roundg (qs.length - (i + 1))
          case measure => omega
          case rel => exact ⟨i + 1, by omega, rfl, by go_num, by rw [HT.out, if_pos (by decide), HPC.out, List.length_append]; exact hown6, hb6⟩
      · go_wp2_with (at_builtin; go_loud (refine print_append_cells w1.heap.size rfl (.tmp 29) (.tmp 31) 117 121 (.agg #[.string ⟨#[]⟩, .slice none 0 0]) 2 40 rfl Try.underlying117 infoP rfl (by decide) (by decide) _ L.length (pcells L) [.string s, .slice qA qn qc] rfl (by show Value.slice (some ⟨wr.heap.size + 1, 0, none⟩) 1 1 = _; simp) rfl (by intro u hu; simp only [List.mem_cons, List.not_mem_nil, or_false] at hu; rcases hu with rfl | rfl <;> rfl) (own_alloc hown _) (ba hb _) (Nat.le_trans hb.size (by simp)) (by omega) ?_); intro v6 w6 hown6 hb6 hg6 hat6)
        go_roundg (qs.length - (i + 1))
        case measure => omega
        case rel => exact ⟨i + 1, by omega, rfl, by go_num, by rw [HT.out, if_pos (by simp), HPC.out, List.length_append]; exact hown6, hb6⟩
    · obtain rfl : i = qs.length := by omega
      obtain ⟨A5, c5, rfl, hRP⟩ := ReadsP.of hown
      have hzr := (hb.block _ (blk_lt hz1)).trans hz1
      have hbr := bt hb1' hb
      have HPA := Lib.hid (partsOf_all qs)
      have HPM := Lib.hid (fun q (h : q ∈ partsOf qs qs.length) => And.intro (HQ.out q (partsOf_mem h)) (HOK.out q (partsOf_mem h)))
      generalize partsOf qs qs.length = Pf at HPA HPM hRP ⊢
      have HRP := Lib.hid hRP
      have x0 := blk_cell hzr 0
      have x1 := blk_cell hzr 1
      have x2 := blk_cell hzr 2
      have t0 := blk_frozen hzr 0
      have t1 := blk_frozen hzr 1
      have t2 := blk_frozen hzr 2
      clear hown hRP hz1
      rcases HCASE.out with ⟨hc1, hc2⟩ | hc1
      · have HN : Hid (parseP M = none) := by show _ = _; unfold parseP; rw [hc1]; rfl
        obtain rfl : ok = false := by rw [HOKD.out, hc1]; rfl
        clear hc1 hc2
        go_wp2
        exact bodyPost_ret (v := .tuple #[.agg #[.int .i64 0, .int .i64 0, .slice none 0 0], .int .i64 140]) (results_ct Try.results41 _ _ w.heap.size _ _ _ _ rfl (set3 hzr _ _ _) Try.underlying60 rfl (by kernel_rfl)) rfl (by rw [HN.out]; exact ⟨rfl, below3 hbr (Nat.le_refl _) _ _ _⟩)
      · obtain rfl : ok = true := by rw [HOKD.out, hc1]; rfl
        have HP : Hid (parseP M = twoP (Pf.map PV.p)) := by show _ = _; unfold parseP; rw [hc1, HPA.out]; rfl
        clear hc1
        by_cases h2 : Pf.length = 2
        · obtain ⟨pa, pb, rfl⟩ : ∃ a b, Pf = [a, b] := by
            rcases Pf with _ | ⟨a, _ | ⟨b, _ | ⟨c, t⟩⟩⟩
            · cases h2
            · cases h2
            · exact ⟨a, b, rfl⟩
            · simp at h2
          clear h2
          obtain ⟨ad, rfl, y1, y2⟩ := HRP.out 0 (by simp)
          obtain ⟨ad', e', y3, y4⟩ := HRP.out 1 (by simp)
          injection e' with e'
          subst e'
          obtain ⟨⟨ba1, ba2, ba3⟩, oka1, oka2⟩ := HPM.out pa (by simp)
          obtain ⟨⟨bb1, bb2, bb3⟩, okb1, okb2⟩ := HPM.out pb (by simp)
          obtain ⟨⟨na, ya⟩, Aa, nna, ca⟩ := pa
          obtain ⟨⟨nb, yb⟩, Ab, nnb, cb⟩ := pb
          have g1 := str4 ba1 fmtL (by intro x hx; simp [fmtL] at hx; omega) 102 109 116 32 rfl
          have g2 := str4 bb1 dataL (by intro x hx; simp [dataL] at hx; omega) 100 97 116 97 rfl
          change wr.cell? (ad.add 0) = some (.string (strOfNums na)) at y1
          change wr.cell? ⟨(ad.add 0).block, (ad.add 0).off + 1, none⟩ = some (.slice Aa nna ca) at y2
          change wr.cell? (ad.add 2) = some (.string (strOfNums nb)) at y3
          change wr.cell? ⟨(ad.add 2).block, (ad.add 2).off + 1, none⟩ = some (.slice Ab nnb cb) at y4
          have ea : ad.add 0 = ad := by unfold Addr.add; simp
          have ea2 : ad.add 2 = ⟨ad.block, ad.off + 2, none⟩ := by unfold Addr.add; simp
          rw [ea] at y1 y2
          rw [ea2] at y3 y4
          clear ea ea2
          have hbz : Below w.heap.size w w1.drew := bd hb1'
          change Hid (parseP M = if na = fmtL ∧ nb = dataL then songP ya yb else none) at HP
          rcases Classical.em (¬ na = fmtL) with k1 | k1
          · have HN : Hid (parseP M = none) := by show _ = _; rw [HP.out, if_neg (fun h => k1 h.1)]
            rw [decide_eq_false k1] at g1
            change ((strOfNums na).toList == [102, 109, 116, 32]) = false at g1
            generalize strOfNums na = sa at y1 g1
            clear k1 g2
            go_wp2
            exact bodyPost_ret (v := .tuple #[.agg #[.int .i64 0, .int .i64 0, .slice none 0 0], .int .i64 140]) (results_ct Try.results41 _ _ w.heap.size _ _ _ _ rfl (set3 hzr _ _ _) Try.underlying60 rfl (by kernel_rfl)) rfl (by rw [HN.out]; exact ⟨rfl, below3 hbr (Nat.le_refl _) _ _ _⟩)
          replace k1 := Classical.not_not.1 k1
          rw [decide_eq_true k1] at g1
          change ((strOfNums na).toList == [102, 109, 116, 32]) = true at g1
          have K1 := Lib.hid k1
          generalize strOfNums na = sa at y1 g1
          clear k1
          rcases Classical.em (¬ nb = dataL) with k2 | k2
          · have HN : Hid (parseP M = none) := by show _ = _; rw [HP.out, if_neg (fun h => k2 h.2)]
            rw [decide_eq_false k2] at g2
            change ((strOfNums nb).toList == [100, 97, 116, 97]) = false at g2
            generalize strOfNums nb = sb at y3 g2
            clear k2
            go_wp2
            exact bodyPost_ret (v := .tuple #[.agg #[.int .i64 0, .int .i64 0, .slice none 0 0], .int .i64 140]) (results_ct Try.results41 _ _ w.heap.size _ _ _ _ rfl (set3 hzr _ _ _) Try.underlying60 rfl (by kernel_rfl)) rfl (by rw [HN.out]; exact ⟨rfl, below3 hbr (Nat.le_refl _) _ _ _⟩)
          replace k2 := Classical.not_not.1 k2
          rw [decide_eq_true k2] at g2
          change ((strOfNums nb).toList == [100, 97, 116, 97]) = true at g2
          have HN : Hid (parseP M = songP ya yb) := by show _ = _; rw [HP.out, if_pos ⟨K1.out, k2⟩]
          generalize strOfNums nb = sb at y3 g2
          clear k2 HP HPM HPA HRP
          go_upto_region 11 with fail
          have HS : Hid (∀ W, Below wr.heap.size wr W → W.cell? ⟨ad.block, ad.off + 1, none⟩ = some (.slice Aa nna ca) ∧ W.cell? ⟨ad.block, ad.off + 2 + 1, none⟩ = some (.slice Ab nnb cb)) := fun W h => ⟨pw_cell_below h y2, pw_cell_below h y4⟩
          have hr1 : Below (w.alloc (.cells #[.int .i64 0, .int .i64 0, .slice none 0 0] 60)).heap.size (w.alloc (.cells #[.int .i64 0, .int .i64 0, .slice none 0 0] 60)) wr := bt hb1 hb
          have HT : Hid (∀ W, Below wr.heap.size wr W → Calls Try.prog 72 #[.slice Aa nna ca, .slice Ab nnb cb] W fun e w' => ∃ (R C : Int) (A' : Option Addr) (c' : Nat) (xs : List Int) (ok : Bool), e = .returned (.tuple #[.agg #[.int .i64 R, .int .i64 C, .slice A' xs.length c'], .bool ok]) ∧ ((songP ya yb = none ∧ ok = false) ∨ (songP ya yb = some (R, C, xs) ∧ ok = true)) ∧ w'.ownsRow W.heap.size 109 1 (.slice A' xs.length c') xs.length (nums .i16 xs) ∧ Below W.heap.size W w') :=
            fun W h => song_one Aa Ab nna nnb ca cb ya yb W oka2 okb2 (by have := bb3; change yb.length ≤ 8192 at this; omega) ba2 bb2 (oka1.below (bt hr1 h)) (okb1.below (bt hr1 h))
          have HZR := Lib.hid hzr
          have HBR := Lib.hid hbr
          have S0 := HS.out wr (br wr)
          obtain ⟨S1, S2⟩ := S0
          clear g1 g2 x0 x1 x2 t0 t1 t2 hzr hbr y1 y2 y3 y4 hbz hr1 ba1 ba2 ba3 bb1 bb2 bb3 oka1 oka2 okb1 okb2
          go_cut [5, 9] (fun x y W => ∃ (R C : Int) (A' : Option Addr) (c' : Nat) (xs : List Int) (ok : Bool) (b : Nat), x = .bool ok ∧ y = .pointer (some ⟨b, 0, none⟩) ∧ ((songP ya yb = none ∧ ok = false) ∨ (songP ya yb = some (R, C, xs) ∧ ok = true)) ∧ W.heap[b]? = some (.cells #[.int .i64 R, .int .i64 C, .slice A' xs.length c'] 60 (0, 0)) ∧ W.heap[w.heap.size]? = some (.cells #[.int .i64 0, .int .i64 0, .slice none 0 0] 60 (0, 0)) ∧ W.ownsRow w.heap.size 109 1 (.slice A' xs.length c') xs.length (nums .i16 xs) ∧ Below w.heap.size w W)
          case first =>
            go_region_held3 (fun w' => w'.cell? ⟨ad.block, ad.off + 1, none⟩ = some (.slice Aa nna ca) ∧ w'.cell? ⟨ad.block, ad.off + 2 + 1, none⟩ = some (.slice Ab nnb cb))
              (first | exact HS.out _ (bd (br _)) | exact HS.out _ (bd (ba (br _) _)) | exact HS.out _ (bt (bd (br _)) (by assumption)) | exact HS.out _ (ba (bt (bd (br _)) (by assumption)) _) | exact HS.out _ (bt (bd (ba (br _) _)) (by assumption)) | exact HS.out _ (below3 (bt (bd (ba (br _) _)) (by assumption)) (Nat.le_refl _) _ _ _))
              (first
                | (go_at_call 72; refine (HT.out _ (by first | exact bd (br _) | exact bd (ba (br _) _))).mono ?_; rintro e w5 ⟨R, C, A6, c6, xs, ok, rfl, hcase, hown, hbs⟩; try (have q := (hbs.block wr.heap.size (by simp)).trans (heap_alloc_new wr _); have q0 := blk_cell q 0; have q1 := blk_cell q 1; have q2 := blk_cell q 2; have s0 := blk_frozen q 0; have s1 := blk_frozen q 1; have s2 := blk_frozen q 2))
                | fail)
            all_goals
              go_wp2
              go_meet
              first
                | exact ⟨R, C, A6, c6, xs, ok, _, rfl, rfl, hcase, heap_alloc_new _ _, blk_alloc ((hbs.block _ (blk_lt (w := wr) HZR.out)).trans HZR.out) _, own_less (own_alloc hown _) HBR.out.size, ba (bt (bd HBR.out) hbs) _⟩
                | exact ⟨R, C, A6, c6, xs, ok, _, rfl, rfl, hcase, set3 q _ _ _, (Below.block (below3 (Below.refl wr.heap.size _) (Nat.le_refl _) _ _ _) w.heap.size (blk_lt HZR.out)).trans ((hbs.block _ (blk_lt (w := wr.alloc _) (blk_alloc HZR.out _))).trans (blk_alloc HZR.out _)), own_less (own_setCell (own_setCell (own_setCell hown (own_ne hown q (by decide)) _) (own_ne hown q (by decide)) _) (own_ne hown q (by decide)) _) (Nat.le_trans HBR.out.size (by simp)), below3 (bt (bd (ba HBR.out _)) hbs) HBR.out.size _ _ _⟩
          case rest =>
            obtain ⟨R, C, A6, c6, xs, ok, b, rfl, rfl, hcs, hxb, hxw, hown, hbw⟩ := hcut
            have x0 := blk_cell hxw 0
            have x1 := blk_cell hxw 1
            have x2 := blk_cell hxw 2
            have t0 := blk_frozen hxw 0
            have t1 := blk_frozen hxw 1
            have t2 := blk_frozen hxw 2
            have y0 := blk_cell hxb 0
            have y1 := blk_cell hxb 1
            have y2 := blk_cell hxb 2
            have HNW := Lib.hid (own_ne hown hxw (by decide))
            clear S1 S2
            rcases hcs with ⟨h1, rfl⟩ | ⟨h1, rfl⟩
            · have HN2 : Hid (parseP M = none) := by show _ = _; rw [HN.out, h1]
              clear h1
              go_wp2
              exact bodyPost_ret (v := .tuple #[.agg #[.int .i64 0, .int .i64 0, .slice none 0 0], .int .i64 140]) (results_ct Try.results41 _ _ w.heap.size _ _ _ _ rfl (set3 hxw _ _ _) Try.underlying60 rfl (by kernel_rfl)) rfl (by rw [HN2.out]; exact ⟨rfl, below3 hbw (Nat.le_refl _) _ _ _⟩)
            · have HN2 : Hid (parseP M = some (R, C, xs)) := by show _ = _; rw [HN.out, h1]
              clear h1
              go_wp2
              exact bodyPost_ret (v := .tuple #[.agg #[.int .i64 R, .int .i64 C, .slice A6 xs.length c6], .int .i64 0]) (results_ct Try.results41 _ _ w.heap.size _ _ _ _ rfl (set3 hxw _ _ _) Try.underlying60 rfl (by kernel_rfl)) rfl (by rw [HN2.out]; exact ⟨A6, c6, rfl, own_setCell (own_setCell (own_setCell hown HNW.out _) HNW.out _) HNW.out _, below3 hbw (Nat.le_refl _) _ _ _⟩)
        · have HN : Hid (parseP M = none) := by
            show _ = _
            rw [HP.out]
            rcases Pf with _ | ⟨a, _ | ⟨b, _ | ⟨c, t⟩⟩⟩
            · rfl
            · rfl
            · exact absurd rfl h2
            · rfl
          have b2 : ((Pf.length : Int) != 2) = true := bne_iff_ne.2 (by omega)
          clear h2
          go_wp2
          exact bodyPost_ret (v := .tuple #[.agg #[.int .i64 0, .int .i64 0, .slice none 0 0], .int .i64 140]) (results_ct Try.results41 _ _ w.heap.size _ _ _ _ rfl (set3 hzr _ _ _) Try.underlying60 rfl (by kernel_rfl)) rfl (by rw [HN.out]; exact ⟨rfl, below3 hbr (Nat.le_refl _) _ _ _⟩)
end Go.Proofs.Ytcjnfdhdcoobgaa.Rif
